/-
 The clean machine, second part: frames, statements whose order is open, calls.
-/
import Derived.Test.YtdfjfncifneocaaGreatMcA
namespace Go.Cl
structure WF (s:aq):Prop where
 room:0<=16000000
 bound:∀j o,s.heap.get j=some o->j<s.next
structure cP (s s' :aq) (X:Nat->Option AO):Prop where
 next:s'.next=s.next
 free:∀j o,X j=some o->s.heap.get j=none/\j<s.next
 get:∀j,s'.heap.get j=match X j with
  |some o=>some o
  |none=>s.heap.get j
structure bL (s t:aq):Prop where
 next:s.next<=t.next
 gone:∀j,j<s.next->s.heap.get j=none->t.heap.get j=none
 here:∀j,s.heap.get j≠none->t.heap.get j≠none
 wf:WF t
theorem bL.refl {s:aq}(h:WF s):bL s s:=⟨Nat.le_refl _,fun _ _ h=>h,fun _ h=>h,h⟩
theorem bL.trans {s t u:aq}(h:bL s t)(k:bL t u):bL s u:=
 ⟨Nat.le_trans h.next k.next,fun j hj hn=>k.gone j (Nat.lt_of_lt_of_le hj h.next) (h.gone j hj hn),fun j hj=>k.here j (h.here j hj),k.wf⟩
section
variable {s s' :aq} {X:Nat->Option AO}
theorem cP.same (h:cP s s' X){j:Nat}{o:AO}(hj:s.heap.get j=some o):s'.heap.get j=some o:=by
 rw[h.get j]
 cases hx:X j with
 |none=>exact hj
 |some o' =>have:=(h.free j o' hx).1;rw[hj] at this;cases this
theorem cP.dL (h:cP s s' X){i:Nat}{b:iC}(hb:s.bK i=some b):s'.bK i=some b:=by
 unfold aq.bK at*
 split at hb
 ·rename_i b0 hg;rw[h.same hg];exact hb
 ·cases hb
theorem cP.map (h:cP s s' X){i:Nat}{es:List (Value×Value)}(hb:s.dR i=some es):s'.dR i=some es:=by
 unfold aq.dR at*
 split at hb
 ·rename_i b0 hg;rw[h.same hg];exact hb
 ·cases hb
theorem cP.cells (h:cP s s' X){i off c n:Nat}{l:List Value}(hc:s.dm i off c n=some l):s'.dm i off c n=some l:=by
 unfold aq.dm at*
 split at hc
 ·rename_i b hb;rw[h.dL hb];exact hc
 ·cases hc
theorem pU {i:Nat}{b:iC}(hb:s.bK i=some b):s.heap.get i=some (.dL b):=by
 unfold aq.bK at hb
 split at hb
 ·rename_i b0 hg;rw[hg];rw[Option.some.inj hb]
 ·cases hb
theorem Jt {i:Nat}{es:List (Value×Value)}(hb:s.dR i=some es):s.heap.get i=some (.map es):=by
 unfold aq.dR at hb
 split at hb
 ·rename_i b0 hg;rw[hg];rw[Option.some.inj hb]
 ·cases hb
theorem cP.put (h:cP s s' X)(hw:WF s){i:Nat}{o0 o:AO}(hi:s.heap.get i=some o0):cP (s.put i o) (s'.put i o) X/\bL s (s.put i o):=by
 have aP:=hw.bound i o0 hi
 have hr:=hw.room
 have hd:i+1<2^depth i:=deep (by omega)
 have hX:X i=none:=by
  cases hx:X i with
  |none=>rfl
  |some o' =>have:=(h.free i o' hx).1;rw[hi] at this;cases this
 refine⟨⟨h.next,fun j o1 hj=> ?_,fun j=> ?_⟩,⟨Nat.le_refl _,fun j hj hn=> ?_,fun j hj=> ?_,hr,fun j o1 hj=> ?_⟩⟩
 ·have fZ:i≠j:=fun e=>by rw[e] at hX;rw[hX] at hj;cases hj
  simp only[aq.put,Tr.ct _ _ _ _ _ fZ]
  exact h.free j o1 hj
 ·by_cases fZ:i=j
  ·subst fZ
   simp only[aq.put,Tr.bu _ _ _ _ hd,hX]
  ·simp only[aq.put,Tr.ct _ _ _ _ _ fZ]
   exact h.get j
 ·have fZ:i≠j:=fun e=>by rw[e] at hi;rw[hi] at hn;cases hn
  simp only[aq.put,Tr.ct _ _ _ _ _ fZ];exact hn
 ·by_cases fZ:i=j
  ·subst fZ;simp[aq.put,Tr.bu _ _ _ _ hd]
  ·simp only[aq.put,Tr.ct _ _ _ _ _ fZ];exact hj
 ·by_cases fZ:i=j
  ·subst fZ;exact aP
  ·simp only[aq.put,Tr.ct _ _ _ _ _ fZ] at hj
   exact hw.bound j o1 hj
theorem cP.new (h:cP s s' X)(hw:WF s)(dh:s.room=true)(o:AO):cP (s.new o) (s'.new o) X/\bL s (s.new o):=by
 have aP:0<16000000:=by omega
 have hd:s.next+1<2^depth s.next:=deep (by omega)
 have YH:X s.next=none:=by
  cases hx:X s.next with
  |none=>rfl
  |some o' =>have:=(h.free _ o' hx).2;omega
 refine⟨⟨by simp only[aq.new,h.next],fun j o1 hj=> ?_,fun j=> ?_⟩,⟨by simp only[aq.new];omega,fun j hj hn=> ?_,fun j hj=> ?_,by omega,fun j o1 hj=> ?_⟩⟩
 ·obtain⟨h1,h2⟩:=h.free j o1 hj
  have fZ:s.next≠j:=by omega
  refine⟨?_,by simp only[aq.new];omega⟩
  simp only[aq.new,Tr.ct _ _ _ _ _ fZ];exact h1
 ·by_cases fZ:s.next=j
  ·subst fZ
   simp only[aq.new,h.next,Tr.bu _ _ _ _ hd,YH]
  ·simp only[aq.new,h.next,Tr.ct _ _ _ _ _ fZ]
   exact h.get j
 ·have fZ:s.next≠j:=by omega
  simp only[aq.new,Tr.ct _ _ _ _ _ fZ];exact hn
 ·have fZ:s.next≠j:=fun e=>by
   have:s.heap.get j=none:=by
    cases hg:s.heap.get j with
    |none=>rfl
    |some o1=>have:=hw.bound j o1 hg;omega
   exact hj this
  simp only[aq.new,Tr.ct _ _ _ _ _ fZ];exact hj
 ·by_cases fZ:s.next=j
  ·subst fZ;simp only[aq.new];omega
  ·simp only[aq.new,Tr.ct _ _ _ _ _ fZ] at hj
   have:=hw.bound j o1 hj
   simp only[aq.new];omega
theorem cP.room (_:cP s s' X):s'.room=s.room:=rfl
def Fr (s:aq)(X:Nat->Option AO)(v:Value)(t:aq)(r:Option (Value×aq)):Prop:=∃t',r=some (v,t')/\cP t t' X/\bL s t
theorem DI (h:cP s s' X)(hw:WF s){cs:List Value}{lW:Nat}{v:Value}{t:aq}(hn:fw s cs lW=some (v,t)):Fr s X v t (fw s' cs lW):=by
 unfold fw at*
 rw[h.room,h.next]
 split at hn
 ·rename_i hr
  injection hn with hn;injection hn with e1 e2;subst e1;subst e2
  rw[if_pos hr]
  exact⟨_,rfl,h.new hw hr _⟩
 ·cases hn
theorem iu (h:cP s s' X)(hw:WF s){cs:List Value}{len lW:Nat}{v:Value}{t:aq}(hn:aX s cs len lW=some (v,t)):Fr s X v t (aX s' cs len lW):=by
 unfold aX at*
 rw[h.room,h.next]
 split at hn
 ·rename_i hr
  injection hn with hn;injection hn with e1 e2;subst e1;subst e2
  rw[if_pos hr]
  exact⟨_,rfl,h.new hw hr _⟩
 ·cases hn
theorem uk (h:cP s s' X)(hw:WF s){i off c:Nat}{vs:List Value}{t:aq}(hs:s.storeAt i off c vs=some t):∃t',s'.storeAt i off c vs=some t' /\cP t t' X/\bL s t:=by
 unfold aq.storeAt at*
 split at hs
 ·rename_i b hb
  rw[h.dL hb]
  simp only
  split at hs
  ·rename_i hc
   rw[if_pos hc]
   split at hs
   ·cases hs
   ·split at hs
    ·rename_i l hl
     obtain rfl:=Option.some.inj hs
     exact⟨_,rfl,h.put hw (pU hb)⟩
    ·cases hs
  ·cases hs
 ·cases hs
theorem MV {P:Program}(h:cP s s' X)(hw:WF s){ty:TypeId}{a v:Value}{t:aq}(hs:fi P s ty a v=some t):∃t',fi P s' ty a v=some t' /\cP t t' X/\bL s t:=by
 unfold fi at*
 split at hs
 ·split at hs
  ·rename_i hc
   obtain rfl:=Option.some.inj hs
   refine⟨s',?_,h,bL.refl hw⟩
   rw[if_pos hc]
  ·cases hs
 ·rename_i cD
  split at hs
  ·rename_i hc;rw[if_pos hc];exact uk h hw hs
  ·cases hs
 ·cases hs
theorem Ao {P:Program}(h:cP s s' X)(hw:WF s){ty:TypeId}{n:Nat}{ps:List (Nat×Value)}{v:Value}{t:aq}(hn:aU P s ty n ps=some (v,t)):Fr s X v t (aU P s' ty n ps):=by
 unfold aU at*
 split at hn
 ·split at hn
  ·split at hn
   ·rename_i hc
    rw[if_pos hc]
    split at hn
    ·exact iu h hw hn
    ·cases hn
   ·cases hn
  ·cases hn
 ·cases hn
theorem C5 {P:Program}(h:cP s s' X)(hw:WF s){ty:TypeId}{x y v:Value}{t:aq}(hn:eu P s ty x y=some (v,t)):Fr s X v t (eu P s' ty x y):=by
 unfold eu at*
 split at hn
 ·split at hn
  ·split at hn
   ·rename_i hc;rw[if_pos hc];exact iu h hw hn
   ·cases hn
  ·cases hn
 ·cases hn
theorem Pq {P:Program}(h:cP s s' X)(hw:WF s){a b:TypeId}{x v:Value}{t:aq}(hc:gG P s a b x=some (v,t)):Fr s X v t (gG P s' a b x):=by
 unfold gG at*
 split at hc
 ·injection hc with hc;injection hc with e1 e2;subst e1;subst e2;exact⟨_,rfl,h,bL.refl hw⟩
 ·injection hc with hc;injection hc with e1 e2;subst e1;subst e2;exact⟨_,rfl,h,bL.refl hw⟩
 ·split at hc
  ·rename_i hq;rw[if_pos hq];exact iu h hw hc
  ·cases hc
 ·split at hc
  ·cases hc
  ·split at hc
   ·rename_i b0 hb
    rw[h.dL hb]
    simp only
    split at hc
    ·rename_i hq
     rw[if_pos hq]
     injection hc with hc;injection hc with e1 e2;subst e1;subst e2
     exact⟨_,rfl,h.put hw (pU hb)⟩
    ·cases hc
   ·cases hc
 ·split at hc
  ·rename_i hq;rw[if_pos hq];injection hc with hc;injection hc with e1 e2;subst e1;subst e2;exact⟨_,rfl,h,bL.refl hw⟩
  ·cases hc
 ·split at hc
  ·rename_i hq
   rw[if_pos hq]
   split at hc
   ·injection hc with hc;injection hc with e1 e2;subst e1;subst e2;exact⟨_,rfl,h,bL.refl hw⟩
   ·split at hc
    ·rename_i l hl
     rw[h.cells hl]
     simp only
     split at hc
     ·injection hc with hc;injection hc with e1 e2;subst e1;subst e2;exact⟨_,rfl,h,bL.refl hw⟩
     ·cases hc
    ·cases hc
  ·cases hc
 ·cases hc
theorem ym (h:cP s s' X){z:Nat}{y:Value}{r:Nat×List Value}(hs:dJ s z y=some r):dJ s' z y=some r:=by
 unfold dJ at*
 split at hs
 ·exact hs
 ·split at hs
  ·exact hs
  ·split at hs
   ·rename_i l hl;rw[h.cells hl];exact hs
   ·cases hs
 ·exact hs
 ·cases hs
theorem SK (h:cP s s' X){z lX:Nat}{zv y:Value}{xd:TypeDesc}{r:Nat×List Value}(hs:EU s z lX zv xd y=some r):EU s' z lX zv xd y=some r:=by
 unfold EU at*
 split at hs
 ·exact hs
 ·exact ym h hs
theorem Ju {P:Program}(h:cP s s' X)(hw:WF s){st xt:TypeId}{x y v:Value}{t:aq}(ha:gl P s st xt x y=some (v,t)):Fr s X v t (gl P s' st xt x y):=by
 unfold gl at*
 split at ha
 case h_2=>cases ha
 split at ha
 case h_1=>cases ha
 split at ha
 case h_2=>cases ha
 split at ha
 case h_2=>cases ha
 rename_i n new Fa
 rw[SK h Fa]
 simp only
 split at ha
 case h_2=>cases ha
 split at ha
 case isFalse=>cases ha
 rename_i hc
 rw[if_pos hc]
 split at ha
 ·injection ha with ha;injection ha with e1 e2;subst e1;subst e2;exact⟨_,rfl,h,bL.refl hw⟩
 ·split at ha
  ·split at ha
   ·rename_i hq;rw[if_pos hq];exact iu h hw ha
   ·cases ha
  ·split at ha
   ·split at ha
    ·rename_i hq;rw[if_pos hq];exact iu h hw ha
    ·cases ha
   ·split at ha
    case h_2=>cases ha
    rename_i b hb
    rw[h.dL hb]
    simp only
    split at ha
    case isFalse=>cases ha
    rename_i hq
    rw[if_pos hq]
    split at ha
    ·rename_i XT
     rw[if_pos XT]
     injection ha with ha;injection ha with e1 e2;subst e1;subst e2
     exact⟨_,rfl,h.put hw (pU hb)⟩
    ·rename_i XT
     rw[if_neg XT]
     split at ha
     ·rename_i old hl
      rw[h.cells hl]
      simp only
      obtain⟨h1,h2⟩:=h.put (o:= .dL (Cl.kill b)) hw (pU hb)
      obtain⟨t',k1,k2,k3⟩:=iu h1 h2.wf ha
      exact⟨t',k1,k2,h2.trans k3⟩
     ·cases ha
  ·cases ha
theorem Ps {P:Program}(h:cP s s' X)(hw:WF s){dt:TypeId}{x y v:Value}{t:aq}(ha:lY P s dt x y=some (v,t)):Fr s X v t (lY P s' dt x y):=by
 unfold lY at*
 split at ha
 case h_2=>cases ha
 split at ha
 case h_2=>cases ha
 split at ha
 ·injection ha with ha;injection ha with e1 e2;subst e1;subst e2;exact⟨_,rfl,h,bL.refl hw⟩
 ·split at ha
  case h_2=>cases ha
  rename_i k2 new i off hs
  rw[ym h hs]
  simp only
  split at ha
  case h_2=>cases ha
  rename_i u hk aA
  injection ha with ha;injection ha with e1 e2;subst e1;subst e2
  obtain⟨t',k1,k2,k3⟩:=uk h hw aA
  rw[hk,k1]
  exact⟨_,rfl,k2,k3⟩
theorem MW {P:Program}(h:cP s s' X)(hw:WF s){ty:TypeId}{x v:Value}{t:aq}(ha:mJ P s ty x=some (v,t)):Fr s X v t (mJ P s' ty x):=by
 unfold mJ at*
 split at ha
 ·injection ha with ha;injection ha with e1 e2;subst e1;subst e2;exact⟨_,rfl,h,bL.refl hw⟩
 ·split at ha
  ·injection ha with ha;injection ha with e1 e2;subst e1;subst e2;exact⟨_,rfl,h,bL.refl hw⟩
  ·split at ha
   case h_2=>cases ha
   rename_i m z zv hz qW
   split at ha
   case isFalse=>cases ha
   rename_i hc
   split at ha
   case h_2=>cases ha
   rename_i s1 aA
   injection ha with ha;injection ha with e1 e2;subst e1;subst e2
   obtain⟨t',k1,k2,k3⟩:=uk h hw aA
   rw[if_pos hc,k1]
   exact⟨_,rfl,k2,k3⟩
 ·cases ha
theorem C6 {P:Program}(h:cP s s' X)(hw:WF s){ty:TypeId}{m k v:Value}{t:aq}(hu:fX P s ty m k v=some t):∃t',fX P s' ty m k v=some t' /\cP t t' X/\bL s t:=by
 unfold fX at*
 split at hu
 ·split at hu
  ·rename_i es he hk
   rw[h.map he]
   simp only[hk]
   split at hu
   ·obtain rfl:=Option.some.inj hu
    exact⟨_,rfl,h.put hw (Jt he)⟩
   ·cases hu
  ·cases hu
 ·cases hu
theorem G4 {P:Program}(h:cP s s' X){ty:TypeId}{a v:Value}(hl:aG P s ty a=some v):aG P s' ty a=some v:=by
 unfold aG at*
 split at hl
 ·split at hl
  ·split at hl
   ·rename_i l hc;rw[h.cells hc];exact hl
   ·cases hl
  ·split at hl
   ·rename_i v0 r0 hc;rw[h.cells hc];exact hl
   ·cases hl
  ·cases hl
 ·cases hl
theorem G5 (h:cP s s' X){i c z:Nat}(he:jW s i c z=true):jW s' i c z=true:=by
 unfold jW at*
 split at he
 ·rfl
 ·split at he
  ·rename_i b hb;rw[h.dL hb];exact he
  ·cases he
theorem MX {P:Program}(h:cP s s' X){ty:TypeId}{x v:Value}{lo hi mx:Option Value}(hs:dH P s ty x lo hi mx=some v):dH P s' ty x lo hi mx=some v:=by
 unfold dH at*
 split at hs
 ·exact hs
 ·split at hs
  ·split at hs
   ·rename_i hc
    rw[if_pos hc]
    split at hs
    ·split at hs
     ·exact hs
     ·split at hs
      ·rename_i he;rw[if_pos (G5 h he)];exact hs
      ·cases hs
     ·cases hs
    ·split at hs
     ·split at hs
      ·rename_i va
       rw[if_pos va]
       split at hs
       ·exact hs
       ·split at hs
        ·rename_i he;rw[if_pos (G5 h he)];exact hs
        ·cases hs
       ·cases hs
      ·cases hs
     ·cases hs
   ·cases hs
  ·cases hs
 ·split at hs
  ·rename_i l hh z b q1 q2 q3 hb
   rw[q1,q2,q3,h.dL hb]
   exact hs
  ·cases hs
 ·cases hs
theorem SL {P:Program}(h:cP s s' X){ty:TypeId}{x v:Value}(hl:aV P s ty x=some v):aV P s' ty x=some v:=by
 unfold aV at*
 split at hl<;>try exact hl
 ·split at hl
  ·rename_i es he;rw[h.map he];exact hl
  ·cases hl
theorem Jv {P:Program}(h:cP s s' X){ty:TypeId}{m k v:Value}{ok:Bool}(hl:mi P s ty m k ok=some v):mi P s' ty m k ok=some v:=by
 unfold mi at*
 split at hl
 case h_2=>cases hl
 split at hl
 case h_2=>cases hl
 rename_i z hz hk
 split at hl
 case isFalse=>cases hl
 rename_i hp
 rw[if_pos hp]
 cases m<;>try (simp at hl;done)
 rename_i r
 cases r with
 |none=>exact hl
 |some r=>
  simp only at hl|-
  cases he:s.dR r with
  |none=>rw[he] at hl;simp at hl
  |some es=>rw[h.map he];rw[he] at hl;exact hl
end
def Jw (P:Program)(o:Oper)(f:aR)(s s' :aq)(X:Nat->Option AO):AR->Prop
 | .val v t=>∃t',cy P o f s' =some (.val v t')/\cP t t' X/\bL s t
 | .call g args=>cy P o f s' =some (.call g args)
theorem iV {s s' :aq}{X:Nat->Option AO}(h:cP s s' X)(hw:WF s){r r' :Option Value}(hr:∀v,r=some v->r' =some v){x:AR}(hx:oo s r=some x):
  ∃v t t',x= .val v t/\oo s' r' =some (.val v t')/\cP t t' X/\bL s t:=by
 cases r with
 |none=>simp[oo] at hx
 |some v=>
  simp only[oo] at hx
  obtain rfl:=Option.some.inj hx
  exact⟨v,s,s',rfl,by rw[hr v rfl];rfl,h,bL.refl hw⟩
theorem rB {s:aq}{X:Nat->Option AO}{r r' :Option (Value×aq)}(hr:∀v t,r=some (v,t)->Fr s X v t r'){x:AR}(hx:lZ r=some x):
  ∃v t t',x= .val v t/\lZ r' =some (.val v t')/\cP t t' X/\bL s t:=by
 cases r with
 |none=>simp[lZ] at hx
 |some p=>
  obtain⟨v,t⟩:=p
  simp only[lZ] at hx
  obtain rfl:=Option.some.inj hx
  obtain⟨t',k1,k2,k3⟩:=hr v t rfl
  exact⟨v,t,t',rfl,by rw[k1];rfl,k2,k3⟩
theorem Pt {s:aq}{X:Nat->Option AO}{r r' :Option aq}(hr:∀t,r=some t->∃t',r' =some t' /\cP t t' X/\bL s t){x:AR}(hx:CT r=some x):
  ∃v t t',x= .val v t/\CT r' =some (.val v t')/\cP t t' X/\bL s t:=by
 cases r with
 |none=>simp[CT] at hx
 |some t=>
  simp only[CT] at hx
  obtain rfl:=Option.some.inj hx
  obtain⟨t',k1,k2,k3⟩:=hr t rfl
  exact⟨undef,t,t',rfl,by rw[k1];rfl,k2,k3⟩
theorem j7 {P:Program}{o:Oper}{f:aR}{s s' :aq}{X:Nat->Option AO}(h:cP s s' X)(hw:WF s){x:AR}(hx:cy P o f s=some x):Jw P o f s s' X x:=by
 have fin:(∃v t t',x= .val v t/\cy P o f s' =some (.val v t')/\cP t t' X/\bL s t)->Jw P o f s s' X x:=by
  rintro ⟨v,t,t',rfl,k1,k2,k3⟩
  exact⟨t',k1,k2,k3⟩
 obtain⟨dst,op,type,pos,after,guard⟩:=o
 cases op<;>(try simp only[cy] at hx fin|-)<;>(try (cases hx;done))
 case move y=>exact fin (iV h hw (fun v hv=>hv) hx)
 case assign y=>exact fin (iV h hw (fun v hv=>hv) hx)
 case pick c y z=>
  apply fin
  split at hx
  ·rename_i t u v h1 h2 h3
   obtain rfl:=Option.some.inj hx
   exact⟨_,s,s',rfl,rfl,h,bL.refl hw⟩
  ·cases hx
 case alloc e=>
  apply fin
  split at hx
  ·split at hx
   ·rename_i hp;rw[if_pos hp];exact rB (fun v t hv=>DI h hw hv) hx
   ·cases hx
  ·cases hx
 case box e y=>
  apply fin
  split at hx
  ·exact rB (fun v t hv=>DI h hw hv) hx
  ·cases hx
 case build t ps=>
  apply fin
  split at hx
  ·exact iV h hw (fun v hv=>hv) hx
  ·cases hx
 case buildSlice t n ps=>
  apply fin
  split at hx
  ·exact rB (fun v t hv=>Ao h hw hv) hx
  ·cases hx
 case load t y=>
  apply fin
  split at hx
  ·exact iV h hw (fun v hv=>G4 h hv) hx
  ·cases hx
 case store t y z=>
  apply fin
  split at hx
  ·exact Pt (fun t ht=>MV h hw ht) hx
  ·cases hx
 case nilCheck y=>
  apply fin
  split at hx
  ·obtain rfl:=Option.some.inj hx;exact⟨_,s,s',rfl,rfl,h,bL.refl hw⟩
  ·obtain rfl:=Option.some.inj hx;exact⟨_,s,s',rfl,rfl,h,bL.refl hw⟩
  ·cases hx
 case binOp op t y z yt=>
  apply fin
  split at hx
  ·exact iV h hw (fun v hv=>hv) hx
  ·cases hx
 case unOp op t y=>
  apply fin
  split at hx
  ·exact iV h hw (fun v hv=>hv) hx
  ·cases hx
 case convert a b y=>
  apply fin
  split at hx
  ·exact rB (fun v t hv=>Pq h hw hv) hx
  ·cases hx
 case makeFunc fn zS bs=>
  cases fn<;>simp only at hx fin|- <;>try (cases hx;done)
  apply fin
  split at hx
  ·obtain rfl:=Option.some.inj hx;exact⟨_,s,s',rfl,rfl,h,bL.refl hw⟩
  ·cases hx
 case makeMap t r=>
  cases r with
  |some _=>simp at hx
  |none=>
   simp only at hx fin|-
   apply fin
   rw[h.room,h.next]
   split at hx
   ·rename_i hr
    rw[if_pos hr]
    obtain rfl:=Option.some.inj hx
    obtain⟨h1,h2⟩:=h.new hw hr (.map [])
    exact⟨_,_,_,rfl,rfl,h1,h2⟩
   ·cases hx
 case makeSlice t y z=>
  apply fin
  split at hx
  ·exact rB (fun v t hv=>C5 h hw hv) hx
  ·cases hx
 case makeInterface t y=>
  apply fin
  split at hx
  ·cases hx
  ·obtain rfl:=Option.some.inj hx;exact⟨_,s,s',rfl,rfl,h,bL.refl hw⟩
  ·cases hx
 case slice t y lo hi mx=>
  apply fin
  split at hx
  ·exact iV h hw (fun v hv=>MX h hv) hx
  ·cases hx
 case fieldAddr t y i=>
  apply fin
  split at hx
  ·exact iV h hw (fun v hv=>hv) hx
  ·cases hx
 case field t y i=>
  apply fin
  split at hx
  ·exact iV h hw (fun v hv=>hv) hx
  ·cases hx
 case indexAddr t y z=>
  apply fin
  split at hx
  ·exact iV h hw (fun v hv=>hv) hx
  ·cases hx
 case index t y z=>
  apply fin
  split at hx
  ·exact iV h hw (fun v hv=>hv) hx
  ·cases hx
 case lookup t y z ok=>
  apply fin
  split at hx
  ·exact iV h hw (fun v hv=>Jv h hv) hx
  ·cases hx
 case mapUpdate t y z u=>
  apply fin
  split at hx
  ·exact Pt (fun t ht=>C6 h hw ht) hx
  ·cases hx
 case extract y i=>
  apply fin
  split at hx
  ·exact iV h hw (fun v hv=>hv) hx
  ·cases hx
 case call c=>
  obtain⟨callee,args,ts⟩:=c
  split at hx
  case h_2=>cases hx
  rename_i l hl
  cases callee with
  |invoke y m=>cases hx
  |value y=>
   simp only at hx
   split at hx
   ·rename_i g zS bs hy
    obtain rfl:=Option.some.inj hx
    simp only[Jw,cy,hl,hy]
   ·cases hx
  |builtin b=>
   simp only[hl] at hx fin
   apply fin
   unfold im at hx|-
   split at hx
   ·exact iV h hw (fun v hv=>SL h hv) hx
   ·exact rB (fun v t hv=>Ju h hw hv) hx
   ·exact rB (fun v t hv=>Ps h hw hv) hx
   ·exact rB (fun v t hv=>MW h hw hv) hx
   ·exact iV h hw (fun v hv=>hv) hx
   ·exact iV h hw (fun v hv=>hv) hx
   ·cases hx
end Go.Cl
namespace Go.Cl
abbrev Call:=FuncId->List Value->aq->Option (Value×aq)
def kL (call:Call):Prop:=∀(s s' :aq) (X:Nat->Option AO) (g:FuncId) (args:List Value) (v:Value) (t:aq),cP s s' X->WF s->call g args s=some (v,t)->∃t',call g args s' =some (v,t')/\cP t t' X/\bL s t
theorem MY {P:Program}{call:Call}(hc:kL call)(all:List Oper):∀(l:List Oper) {f f1:aR} {s s' t:aq} {X:Nat->Option AO},cP s s' X->WF s->gn P call all l f s=some (f1,t)->∃t',gn P call all l f s' =some (f1,t')/\cP t t' X/\bL s t:=by
 intro l
 induction l with
 |nil=>
  intro f f1 s s' t X h hw hr
  simp only[gn] at hr
  injection hr with hr;injection hr with e1 e2;subst e1;subst e2
  exact⟨s',rfl,h,bL.refl hw⟩
 |cons o l ih=>
  intro f f1 s s' t X h hw hr
  simp only[gn] at hr|-
  split at hr
  ·rename_i nO
   rw[if_pos nO]
   split at hr
   ·rename_i v s1 dZ
    obtain⟨t1,k1,k2,k3⟩:=j7 h hw dZ
    rw[k1]
    split at hr
    ·rename_i f2 hp
     obtain⟨t',j1,j2,j3⟩:=ih k2 k3.wf hr
     exact⟨t',by simp only[hp];exact j1,j2,k3.trans j3⟩
    ·cases hr
   ·rename_i g args dZ
    have k1:=j7 h hw dZ
    simp only[Jw] at k1
    rw[k1]
    split at hr
    ·rename_i v s1 mP
     obtain⟨t1,c1,c2,c3⟩:=hc _ _ _ _ _ _ _ h hw mP
     split at hr
     ·rename_i f2 hp
      obtain⟨t',j1,j2,j3⟩:=ih c2 c3.wf hr
      exact⟨t',by simp only[c1,hp];exact j1,j2,c3.trans j3⟩
     ·cases hr
    ·cases hr
   ·cases hr
  ·rename_i nO
   rw[if_neg nO]
   split at hr
   ·rename_i f2 hp
    obtain⟨t',j1,j2,j3⟩:=ih h hw hr
    exact⟨t',j1,j2,j3⟩
   ·cases hr
abbrev Made:=List (Nat×Nat×iC)
def Ln (p:Nat->Bool):Made->Nat->Option AO
 |[],_=>none
 |(j,id,b)::r,i=>if p j=true/\id=i then some (.dL b) else Ln p r i
theorem vi (p:Nat->Bool):∀(zS:Made) (T:aq),(∀x∈zS,0<16000001)->(fill p T zS).next=T.next/\∀i,(fill p T zS).heap.get i=match T.heap.get i with
  |some o=>some o
  |none=>Ln p zS i:=by
 intro zS
 induction zS with
 |nil=>intro T _;refine⟨rfl,fun i=> ?_⟩;simp only[fill,Ln];cases T.heap.get i<;>rfl
 |cons x r ih=>
  intro T hb
  obtain⟨j,id,b⟩:=x
  have fc:=hb (j,id,b) (List.mem_cons_self ..)
  have hr:∀x∈r,0<16000001:=fun x hx=>hb x (List.mem_cons_of_mem _ hx)
  simp only[fill]
  split
  ·rename_i hp hg
   obtain⟨h1,h2⟩:=ih (T.put id (.dL b)) hr
   refine⟨h1,fun i=> ?_⟩
   rw[h2 i]
   by_cases hi:id=i
   ·subst hi
    simp only[aq.put,Tr.bu _ _ _ _ (deep fc),hg,Ln,hp,and_self,if_true]
   ·rw[aq.a8 _ _ _ _ hi]
    simp only[Ln,hi,and_false,if_false]
  ·rename_i cD
   obtain⟨h1,h2⟩:=ih T hr
   refine⟨h1,fun i=> ?_⟩
   rw[h2 i]
   cases hg:T.heap.get i with
   |some o=>rfl
   |none=>
    simp only[Ln]
    split
    ·rename_i Gv
     obtain⟨hp,rfl⟩:=Gv
     exact absurd hg (cD hp)
    ·rfl
theorem Ap {p:Nat->Bool}:∀{zS:Made} {i:Nat},(∀x∈zS,x.2.1≠i)->Ln p zS i=none
 |[],_,_=>rfl
 |(j,id,b)::r,i,h=>by
  have h1:=h (j,id,b) (List.mem_cons_self ..)
  simp only[Ln,if_neg (fun e=>h1 e.2:¬(p j=true/\id=i))]
  exact Ap (fun x hx=>h x (List.mem_cons_of_mem _ hx))
theorem vj {p:Nat->Bool}:∀{zS:Made} {i:Nat} {o:AO},Ln p zS i=some o->∃j b,(j,i,b)∈zS/\p j=true/\o= .dL b
 |[],_,_,h=>by cases h
 |(j,id,b)::r,i,o,h=>by
  simp only[Ln] at h
  split at h
  ·rename_i hp
   obtain⟨hp,rfl⟩:=hp
   injection h with h
   exact⟨j,b,List.mem_cons_self ..,hp,h.symm⟩
  ·obtain⟨j',b',h1,h2,h3⟩:=vj h
   exact⟨j',b',List.mem_cons_of_mem _ h1,h2,h3⟩
theorem cP.fill {T T' :aq}{X:Nat->Option AO}(h:cP T T' X)(hw:WF T){zS:Made}(fc:∀x∈zS,x.2.1<T.next/\X x.2.1=none)(p:Nat->Bool):cP (fill p T zS) (fill p T' zS) X:=by
 have hs:∀x∈zS,0<16000001:=fun x hx=>by have:=(fc x hx).1;have:=hw.room;omega
 obtain⟨n1,g1⟩:=vi p zS T hs
 obtain⟨n2,g2⟩:=vi p zS T' hs
 refine⟨by rw[n1,n2,h.next],fun j o hj=> ?_,fun j=> ?_⟩
 ·obtain⟨h1,h2⟩:=h.free j o hj
  refine⟨?_,by rw[n1];exact h2⟩
  rw[g1 j,h1]
  exact Ap fun x hx e=>by have:=(fc x hx).2;rw[e] at this;rw[hj] at this;cases this
 ·rw[g2 j,g1 j,h.get j]
  cases hx:X j with
  |some o=>rfl
  |none=>rfl
structure fN (B:Nat) (s t:aq):Prop where
 next:s.next<=t.next
 gone:∀j,j<B->s.heap.get j=none->t.heap.get j=none
 here:∀j,s.heap.get j≠none->t.heap.get j≠none
 wf:WF t
theorem fN.trans {B:Nat}{s t u:aq}(h:fN B s t)(k:fN B t u):fN B s u:=
 ⟨Nat.le_trans h.next k.next,fun j hj hn=>k.gone j hj (h.gone j hj hn),fun j hj=>k.here j (h.here j hj),k.wf⟩
theorem fN.refl {B:Nat}{s:aq}(h:WF s):fN B s s:=⟨Nat.le_refl _,fun _ _ h=>h,fun _ h=>h,h⟩
theorem bL.toB {B:Nat}{s t:aq}(h:bL s t)(hB:B<=s.next):fN B s t:=⟨h.next,fun j hj=>h.gone j (by omega),h.here,h.wf⟩
theorem fN.fill {B:Nat}{T:aq}(hw:WF T){zS:Made}(fc:∀x∈zS,B<=x.2.1/\x.2.1<T.next)(p:Nat->Bool):fN B T (fill p T zS):=by
 have hs:∀x∈zS,0<16000001:=fun x hx=>by have:=(fc x hx).2;have:=hw.room;omega
 obtain⟨n1,g1⟩:=vi p zS T hs
 refine⟨by rw[n1];exact Nat.le_refl _,fun j hj hn=> ?_,fun j hj=> ?_,⟨hw.room,fun j o hj=> ?_⟩⟩
 ·rw[g1 j,hn]
  exact Ap fun x hx e=>by have:=(fc x hx).1;omega
 ·rw[g1 j]
  cases hg:T.heap.get j with
  |none=>exact absurd hg hj
  |some o=>simp
 ·rw[g1 j] at hj
  rw[n1]
  cases hg:T.heap.get j with
  |some o=>exact hw.bound j o hg
  |none=>
   rw[hg] at hj
   obtain⟨j',b,h1,_,_⟩:=vj hj
   exact(fc _ h1).2
def EvR (X:Nat->Option AO)(B:Nat)(T:aq):Ev->Ev->Prop
 | .skip,.skip=>True
 | .quiet v,.quiet u=>v=u
 | .made v i b,.made v' i' b' =>v=v' /\i=i' /\b=b'
 | .zc v s,.zc v' s' =>v=v' /\cP s s' X/\fN B T s
 |_,_=>False
theorem MZ {P:Program}{call:Call}(hc:kL call){all:List Oper}{m id:Nat}{zS:Made}{o:Oper}{f:aR}{T T' :aq}{X:Nat->Option AO}{B:Nat}{e:Ev}
  (h:cP T T' X) (hw:WF T) (hB:B<=T.next) (fc:∀x∈zS,B<=x.2.1/\x.2.1<T.next/\X x.2.1=none) (hd:cV P call all m id zS o f T=some e):
  ∃e',cV P call all m id zS o f T' =some e' /\EvR X B T e e' :=by
 have hf:=h.fill hw (fun x hx=>(fc x hx).2) (Nat.testBit m)
 have kf:=fN.fill (B:=B) hw (fun x hx=>⟨(fc x hx).1,(fc x hx).2.1⟩) (Nat.testBit m)
 have hBn:B<=(fill (Nat.testBit m) T zS).next:=Nat.le_trans hB kf.next
 unfold cV at*
 split at hd
 ·injection hd with hd;subst hd;exact⟨.skip,rfl,trivial⟩
 ·split at hd
  ·rename_i hq
   split at hd
   ·rename_i v t dZ
    injection hd with hd;subst hd
    obtain⟨t',k1,_,_⟩:=j7 hf kf.wf dZ
    exact⟨.quiet v,by simp only[k1],rfl⟩
   ·cases hd
  ·exact⟨e,hd,by
    split at hd
    ·split at hd
     ·injection hd with hd;subst hd;exact⟨rfl,rfl,rfl⟩
     ·cases hd
    ·cases hd⟩
  ·split at hd
   ·rename_i v t dZ
    injection hd with hd;subst hd
    obtain⟨t',k1,k2,k3⟩:=j7 hf kf.wf dZ
    exact⟨.zc v t',by simp only[k1],rfl,k2,kf.trans (k3.toB hBn)⟩
   ·rename_i g args dZ
    have k1:=j7 hf kf.wf dZ
    simp only[Jw] at k1
    split at hd
    ·rename_i v t mP
     injection hd with hd;subst hd
     obtain⟨t1,c1,c2,c3⟩:=hc _ _ _ _ _ _ _ hf kf.wf mP
     exact⟨.zc v t1,by simp only[k1,c1],rfl,c2,kf.trans (c3.toB hBn)⟩
    ·cases hd
   ·cases hd
theorem EvR.val {X:Nat->Option AO}{B:Nat}{T:aq}{e e' :Ev}(h:EvR X B T e e'):e'.val=e.val:=by
 cases e<;>cases e' <;>simp_all[EvR,Ev.val]
def EvS:Ev->Ev->Prop
 | .skip,.skip=>True
 | .quiet v,.quiet u=>v=u
 | .made v i b,.made v' i' b' =>v=v' /\i=i' /\b=b'
 | .zc v _,.zc v' _=>v=v'
 |_,_=>False
def YI:List Ev->List Ev->Prop
 |[],[]=>True
 |e::r,e' ::r' =>EvS e e' /\YI r r'
 |_,_=>False
def DJ (X:Nat->Option AO)(B:Nat)(T:aq):List aq->List aq->Prop
 |[],[]=>True
 |s::r,s' ::r' =>(cP s s' X/\fN B T s)/\DJ X B T r r'
 |_,_=>False
theorem DJ.mono {X:Nat->Option AO}{B:Nat}{T U:aq}(h:fN B T U):∀{l l' :List aq},DJ X B U l l' ->DJ X B T l l'
 |[],[],_=>trivial
 |_::_,_::_,⟨⟨h1,h2⟩,h3⟩=>⟨⟨h1,h.trans h2⟩,DJ.mono h h3⟩
 |[],_::_,k=>k
 |_::_,[],k=>k
theorem DJ.take {X:Nat->Option AO}{B:Nat}{T:aq}:∀(n:Nat) {l l' :List aq},DJ X B T l l' ->DJ X B T (l.take n) (l'.take n)
 |0,_,_,_=>trivial
 |_+1,[],[],_=>trivial
 |n+1,_::_,_::_,⟨h1,h2⟩=>⟨h1,DJ.take n h2⟩
 |_+1,[],_::_,k=>k
 |_+1,_::_,[],k=>k
theorem DJ.drop {X:Nat->Option AO}{B:Nat}{T:aq}:∀(n:Nat) {l l' :List aq},DJ X B T l l' ->DJ X B T (l.drop n) (l'.drop n)
 |0,_,_,h=>h
 |_+1,[],[],_=>trivial
 |n+1,_::_,_::_,⟨_,h2⟩=>DJ.drop n h2
 |_+1,[],_::_,k=>k.elim
 |_+1,_::_,[],k=>k.elim
theorem DJ.last {X:Nat->Option AO}{B:Nat}{T:aq}:∀{l l' :List aq} {d d' :aq},DJ X B T l l' ->cP d d' X->fN B T d->cP (l.getLastD d) (l'.getLastD d') X/\fN B T (l.getLastD d)
 |[],[],_,_,_,h,k=>⟨h,k⟩
 |s::r,s' ::r',d,d',⟨h1,h2⟩,_,_=>by
  rw[List.getLastD_cons,List.getLastD_cons]
  exact DJ.last h2 h1.1 h1.2
 |[],_::_,_,_,k,_,_=>k.elim
 |_::_,[],_,_,k,_,_=>k.elim
theorem Jx {P:Program}{call:Call}(hc:kL call){all:List Oper}{X:Nat->Option AO}{B:Nat}(hX:∀j o,X j=some o->j<B):∀(ms:List Nat) (ops:List Oper) (i id:Nat) (f:aR) (T T' :aq) (zS:Made) (es:List Ev),
  cP T T' X->WF T->B<=id->id+aF P ops<=T.next->(∀x∈zS,B<=x.2.1/\x.2.1<T.next)->bQ P call all ms ops i id f T zS=some es->
  ∃fY,bQ P call all ms ops i id f T' zS=some fY/\YI es fY/\DJ X B T (ax P ops es T) (ax P ops fY T')/\∀x∈madeOf es i,B<=x.2.1/\x.2.1<id+aF P ops:=by
 intro ms
 induction ms with
 |nil=>
  intro ops i id f T T' zS es h hw _ _ _ hd
  cases ops<;>(simp only[bQ] at hd|-;injection hd with hd;subst hd;exact⟨[],rfl,trivial,⟨⟨h,fN.refl hw⟩,trivial⟩,fun x hx=>by cases hx⟩)
 |cons m ms ih=>
  intro ops i id f T T' zS es h hw hB hn has hd
  cases ops with
  |nil=>simp only[bQ] at hd|-;injection hd with hd;subst hd;exact⟨[],rfl,trivial,⟨⟨h,fN.refl hw⟩,trivial⟩,fun x hx=>by cases hx⟩
  |cons o ops=>
   simp only[bQ] at hd|-
   have YH:∀k,B<=k->X k=none:=fun k hk=>by
    cases hx:X k with
    |none=>rfl
    |some o=>have:=hX k o hx;omega
   split at hd
   ·rename_i e he
    split at hd
    ·rename_i f' hp
     split at hd
     ·rename_i Gu Fj
      injection hd with hd;subst hd
      have hBT:B<=T.next:=by omega
      obtain⟨e',zd,hr⟩:=MZ hc h hw hBT (fun x hx=>⟨(has x hx).1,(has x hx).2,YH _ (has x hx).1⟩) he
      rw[zd]
      simp only[hr.val,hp]
      have SM:∀v d b,e= .made v d b->d=id/\aB P o=true:=by
       intro v d b hee
       subst hee
       unfold cV at he
       split at he
       ·cases he
       ·split at he
        ·split at he<;>cases he
        ·rename_i _ ha
         split at he
         ·split at he
          ·injection he with he;injection he with _ e2 _;exact⟨e2.symm,ha⟩
          ·cases he
         ·cases he
        ·split at he
         ·cases he
         ·split at he<;>cases he
         ·cases he
      have wY:aF P (o::ops)=if aB P o then aF P ops+1 else aF P ops:=rfl
      have hB1:B<=(if aB P o then id+1 else id):=by split<;>omega
      have Pu:(if aB P o then id+1 else id)+aF P ops=id+aF P (o::ops):=by rw[wY];split<;>omega
      have I2:∀{x:Nat×Nat×iC},(B<=x.2.1/\x.2.1<(if aB P o then id+1 else id)+aF P ops)->B<=x.2.1/\x.2.1<id+aF P (o::ops):=fun h=>⟨h.1,by rw[<-Pu];exact h.2⟩
      cases e with
      |skip=>
       cases e' <;>try exact hr.elim
       obtain⟨fY,j1,j2,j3,j4⟩:=ih ops (i+1) _ f' T T' zS Gu h hw hB1 (by rw[Pu];exact hn) has Fj
       simp only[j1]
       refine⟨_,rfl,⟨trivial,j2⟩,?_,fun x hx=>I2 (j4 x hx)⟩
       simp only[ax]
       split
       ·exact⟨⟨h,fN.refl hw⟩,j3⟩
       ·exact j3
      |quiet v=>
       cases e' <;>try exact hr.elim
       obtain⟨fY,j1,j2,j3,j4⟩:=ih ops (i+1) _ f' T T' zS Gu h hw hB1 (by rw[Pu];exact hn) has Fj
       simp only[j1]
       refine⟨_,rfl,⟨hr,j2⟩,?_,fun x hx=>I2 (j4 x hx)⟩
       simp only[ax]
       split
       ·exact⟨⟨h,fN.refl hw⟩,j3⟩
       ·exact j3
      |made v d b=>
       cases e' <;>try exact hr.elim
       obtain⟨rfl,rfl,rfl⟩:=hr
       obtain⟨rfl,ha⟩:=SM v d b rfl
       have YJ:d<d+aF P (o::ops):=by rw[wY,if_pos ha];omega
       have ir:B<=d/\d<T.next:=⟨hB,by omega⟩
       obtain⟨fY,j1,j2,j3,j4⟩:=ih ops (i+1) _ f' T T' (zS++[(i,d,b)]) Gu h hw hB1 (by rw[Pu];exact hn) (fun x hx=>by
        rcases List.mem_append.1 hx with h' |h'
        ·exact has x h'
        ·obtain rfl:=List.mem_singleton.1 h';exact ir) Fj
       simp only[j1]
       refine⟨_,rfl,⟨⟨rfl,rfl,rfl⟩,j2⟩,?_,fun x hx=> ?_⟩
       ·simp only[ax]
        split
        ·exact⟨⟨h,fN.refl hw⟩,j3⟩
        ·exact j3
       ·simp only[madeOf] at hx
        rcases List.mem_cons.1 hx with rfl|hx
        ·exact⟨hB,YJ⟩
        ·exact I2 (j4 x hx)
      |zc v s=>
       cases e' <;>try exact hr.elim
       rename_i v' s'
       obtain⟨rfl,kH,iT⟩:=hr
       have nH:T.next<=s.next:=iT.next
       obtain⟨fY,j1,j2,j3,j4⟩:=ih ops (i+1) _ f' s s' zS Gu kH iT.wf hB1 (by rw[Pu];omega) (fun x hx=>⟨(has x hx).1,by have:=(has x hx).2;omega⟩) Fj
       simp only[j1]
       refine⟨_,rfl,⟨rfl,j2⟩,?_,fun x hx=>I2 (j4 x hx)⟩
       simp only[ax]
       exact⟨⟨h,fN.refl hw⟩,j3.mono iT⟩
     ·cases hd
    ·cases hd
   ·cases hd
theorem DK:∀{es fY:List Ev} (i:Nat),YI es fY->madeOf fY i=madeOf es i
 |[],[],_,_=>rfl
 |e::r,e' ::r',i,⟨h1,h2⟩=>by
  have:=DK (i+1) h2
  cases e<;>cases e' <;>first
   |exact h1.elim
   |(obtain⟨rfl,rfl,rfl⟩:=h1;simp only[madeOf,this])
   |simp only[madeOf,this]
 |[],_::_,_,h=>h.elim
 |_::_,[],_,h=>h.elim
theorem EvS.val {e e' :Ev}(h:EvS e e'):e'.val=e.val:=by
 cases e<;>cases e' <;>simp_all[EvS,Ev.val]
theorem yn:∀{es fY:List Ev} (ops:List Oper) (f:aR),YI es fY->bN ops fY f=bN ops es f
 |[],[],ops,f,_=>rfl
 |e::r,e' ::r',[],f,_=>rfl
 |e::r,e' ::r',o::ops,f,⟨h1,h2⟩=>by
  simp only[bN,h1.val]
  cases jS f o.dst e.val with
  |none=>rfl
  |some f' =>exact yn ops f' h2
 |[],_::_,_,_,h=>h.elim
 |_::_,[],_,_,h=>h.elim
theorem DL {P:Program}{m:Nat}{zS:Made}{o:Oper}{f:aR}{v:Value}{X:Nat->Option AO}{B:Nat}{T:aq}(fc:∀x∈zS,B<=x.2.1/\x.2.1<T.next/\X x.2.1=none):∀{l l' :List aq},DJ X B T l l' ->sameAt P m zS o f v l=true->sameAt P m zS o f v l' =true
 |[],[],_,h=>h
 |s::r,s' ::r',⟨⟨h1,h2⟩,h3⟩,h=>by
  have vk:∀x∈zS,B<=x.2.1/\x.2.1<s.next/\X x.2.1=none:=fun x hx=>⟨(fc x hx).1,by have:=(fc x hx).2.1;have:=h2.next;omega,(fc x hx).2.2⟩
  have hf:=h1.fill h2.wf (fun x hx=>(vk x hx).2) (Nat.testBit m)
  have kf:=fN.fill (B:=B) h2.wf (fun x hx=>⟨(vk x hx).1,(vk x hx).2.1⟩) (Nat.testBit m)
  simp only[sameAt] at h|-
  split at h
  ·rename_i u t dZ
   obtain⟨t',k1,_,_⟩:=j7 hf kf.wf dZ
   simp only[k1]
   rw[Bool.and_eq_true] at h|-
   exact⟨h.1,DL fc h3 h.2⟩
  ·cases h
 |[],_::_,h,_=>h.elim
 |_::_,[],h,_=>h.elim
theorem G6 {P:Program}{all:List Oper}{ms:List Nat}{zS:Made}{X:Nat->Option AO}{B:Nat}{T:aq}(fc:∀x∈zS,B<=x.2.1/\x.2.1<T.next/\X x.2.1=none){l l' :List aq}(aA:DJ X B T l l'):
  ∀(mr:List Nat) (ops:List Oper) (es fY:List Ev) (i:Nat) (f:aR),YI es fY->bJ P all ms zS l mr ops es i f=true->bJ P all ms zS l' mr ops fY i f=true:=by
 intro mr
 induction mr with
 |nil=>intro ops es fY i f _ h;simp only[bJ]
 |cons m mr ih=>
  intro ops es fY i f mM h
  cases ops with
  |nil=>simp only[bJ]
  |cons o ops=>
   cases es with
   |nil=>cases fY with
    |nil=>exact h
    |cons _ _=>exact mM.elim
   |cons e es=>
    cases fY with
    |nil=>exact mM.elim
    |cons e' fY=>
     obtain⟨h1,h2⟩:=mM
     simp only[bJ,Bool.and_eq_true] at h|-
     rw[h1.val]
     obtain⟨ha,hb⟩:=h
     refine⟨?_,?_⟩
     ·cases e<;>cases e' <;>first
       |exact h1.elim
       |rfl
       |skip
      rename_i v v'
      obtain rfl:v=v' :=h1
      exact DL fc ((aA.take _).drop _) ha
     ·cases hp:jS f o.dst e.val with
      |none=>rw[hp] at hb;cases hb
      |some f' =>rw[hp] at hb;exact ih ops es fY (i+1) f' h2 hb
theorem cP.up {s s' :aq}{X:Nat->Option AO}(h:cP s s' X)(n:Nat):cP ⟨s.heap,s.next+n⟩ ⟨s'.heap,s'.next+n⟩ X:=
 ⟨by simp only[h.next],fun j o hj=>⟨(h.free j o hj).1,by have:=(h.free j o hj).2;simp only;omega⟩,h.get⟩
theorem Aq {P:Program}{call:Call}(hc:kL call){ops:List Oper}{f f1:aR}{s s' t:aq}{X:Nat->Option AO}(h:cP s s' X)(hw:WF s)(hr:fj P call ops f s=some (f1,t)):
  ∃t',fj P call ops f s' =some (f1,t')/\cP t t' X/\bL s t:=by
 unfold fj at*
 rw[h.next]
 split at hr
 ·cases hr
 rename_i hle
 split at hr
 case h_2=>cases hr
 rename_i es hd
 split at hr
 case h_2=>cases hr
 rename_i Gx
 injection hr with hr;injection hr with e1 e2;subst e1;subst e2
 have Yt:0<=16000000:=by omega
 have Jy:WF ⟨s.heap,s.next+aF P ops⟩:=⟨Yt,fun j o hj=>by have:=hw.bound j o hj;simp only;omega⟩
 have hup:=h.up (aF P ops)
 rw[h.next] at hup
 have hX:∀j o,X j=some o->j<s.next:=fun j o hj=>(h.free j o hj).2
 obtain⟨fY,k1,k2,k3,k4⟩:=Jx hc hX _ ops 0 s.next f _ _ [] es hup Jy (Nat.le_refl _) (Nat.le_refl _) (fun x hx=>by cases hx) hd
 have YH:∀k,s.next<=k->X k=none:=fun k hk=>by
  cases hx:X k with
  |none=>rfl
  |some o=>have:=hX k o hx;omega
 have fc:∀x∈madeOf es 0,s.next<=x.2.1/\x.2.1<(⟨s.heap,s.next+aF P ops⟩:aq).next/\X x.2.1=none:=fun x hx=>⟨(k4 x hx).1,(k4 x hx).2,YH _ (k4 x hx).1⟩
 simp only[k1,DK 0 k2,G6 fc k3 _ ops es fY 0 f k2 Gx,yn ops f k2]
 have hlen:∀(ops:List Oper) (es:List Ev) (T:aq),ax P ops es T≠[]:=by
  intro ops
  induction ops with
  |nil=>intro es T;cases es<;>simp[ax]
  |cons o ops ih=>
   intro es T
   cases es with
   |nil=>simp[ax]
   |cons e es=>
    simp only[ax]
    cases e<;>first
     |(simp;done)
     |(dsimp only;split<;>first|(simp;done)|exact ih _ _)
 obtain⟨a1,a2⟩:cP ((ax P ops es ⟨s.heap,s.next+aF P ops⟩).getLastD s) ((ax P ops fY ⟨s'.heap,s.next+aF P ops⟩).getLastD s') X/\fN s.next ⟨s.heap,s.next+aF P ops⟩ ((ax P ops es ⟨s.heap,s.next+aF P ops⟩).getLastD s):=by
  have:=hlen ops es ⟨s.heap,s.next+aF P ops⟩
  have:=hlen ops fY ⟨s'.heap,s.next+aF P ops⟩
  generalize ax P ops es ⟨s.heap,s.next+aF P ops⟩=l at*
  generalize ax P ops fY ⟨s'.heap,s.next+aF P ops⟩=l' at*
  cases l with
  |nil=>contradiction
  |cons x r=>
   cases l' with
   |nil=>contradiction
   |cons x' r' =>
    rw[List.getLastD_cons,List.getLastD_cons]
    exact DJ.last k3.2 k3.1.1 k3.1.2
 have Ar:∀x∈madeOf es 0,s.next<=x.2.1/\x.2.1<((ax P ops es ⟨s.heap,s.next+aF P ops⟩).getLastD s).next:=fun x hx=>⟨(fc x hx).1,Nat.lt_of_lt_of_le (fc x hx).2.1 a2.next⟩
 refine⟨_,rfl,a1.fill a2.wf (fun x hx=>⟨(Ar x hx).2,(fc x hx).2.2⟩) _,?_⟩
 have kk:=a2.trans (fN.fill a2.wf Ar (fun _=>true))
 exact⟨Nat.le_trans (Nat.le_add_right _ _) kk.next,kk.gone,kk.here,kk.wf⟩
def Pv (ex:Code->aR->aq->Out):Prop:=∀(c:Code) (f f1:aR) (x:AX) (s s' t:aq) (X:Nat->Option AO),cP s s' X->WF s->ex c f s=some (x,f1,t)->∃t',ex c f s' =some (x,f1,t')/\cP t t' X/\bL s t
theorem rC {P:Program}{f:aR}{s s' :aq}{X:Nat->Option AO}(h:cP s s' X):∀{l:List ResultVar} {vs:List Value},cS P f s l=some vs->cS P f s' l=some vs:=by
 intro l
 induction l with
 |nil=>intro vs hv;exact hv
 |cons r l ih=>
  intro vs hv
  cases r with
  |tmp t=>
   simp only[cS] at hv|-
   split at hv
   ·rename_i ht
    rw[if_pos ht]
    split at hv
    ·rename_i m hm;rw[ih hm];exact hv
    ·cases hv
   ·cases hv
  |cell a t=>
   simp only[cS] at hv|-
   split at hv
   ·rename_i ht
    rw[if_pos ht]
    split at hv
    ·rename_i v m h1 h2;rw[G4 h h1,ih h2];exact hv
    ·cases hv
   ·cases hv
def wZ (p:Prim):Prop:=∀(s s' :aq) (X:Nat->Option AO) (args:List Value) (v:Value) (t:aq),cP s s' X->WF s->p args s=some (v,t)->∃t',p args s' =some (v,t')/\cP t t' X/\bL s t
def ln (lib:ay):Prop:=∀g p,lib.at g=some p->wZ p
theorem ln.nil:ln []:=fun _ _ h=>by cases h
theorem rD {P:Program}{lib:ay}(hl:ln lib){ex:Code->aR->aq->Out}(he:Pv ex):kL (eG P lib ex):=by
 intro s s' X g args v t h hw hc
 unfold eG at*
 split at hc
 ·rename_i p hp
  exact hl g p hp _ _ _ _ _ _ h hw hc
 split at hc
 case h_2=>cases hc
 split at hc
 case h_2=>cases hc
 split at hc
 ·rename_i f s1 hx
  obtain⟨t',k1,k2,k3⟩:=he _ _ _ _ _ _ _ _ h hw hx
  simp only[k1]
  split at hc
  ·rename_i l hl
   injection hc with hc;injection hc with e1 e2;subst e1;subst e2
   exact⟨t',by rw[rC k2 hl],k2,k3⟩
  ·cases hc
 ·rename_i f s1 hx
  obtain⟨t',k1,k2,k3⟩:=he _ _ _ _ _ _ _ _ h hw hx
  simp only[k1]
  split at hc
  ·rename_i l hl
   injection hc with hc;injection hc with e1 e2;subst e1;subst e2
   exact⟨t',by rw[rC k2 hl],k2,k3⟩
  ·cases hc
 ·cases hc
theorem Lo {P:Program}{lib:ay}(hl:ln lib):∀n,Pv (exec P lib n):=by
 intro n
 induction n with
 |zero=>intro c f f1 x s s' t X _ _ h;simp[exec] at h
 |succ n ih=>
  have hc:=rD (P:=P) hl ih
  intro c f f1 x s s' t X h hw hx
  have leaf:∀y,some (y,f,s)=some (x,f1,t)->∃t',some (y,f,s')=some (x,f1,t')/\cP t t' X/\bL s t:=by
   intro y e
   injection e with e;injection e with e1 e2;injection e2 with e2 e3;subst e1;subst e2;subst e3
   exact⟨s',rfl,h,bL.refl hw⟩
  have two:∀(a b:Code),(match exec P lib n a f s with
    |some (.normal,f',s')=>exec P lib n b f' s'
    |r=>r)=some (x,f1,t)->∃t',(match exec P lib n a f s' with
    |some (.normal,f',s')=>exec P lib n b f' s'
    |r=>r)=some (x,f1,t')/\cP t t' X/\bL s t:=by
   intro a b hx
   split at hx
   ·rename_i f2 s2 h1
    obtain⟨t2,k1,k2,k3⟩:=ih _ _ _ _ _ _ _ _ h hw h1
    obtain⟨t',j1,j2,j3⟩:=ih _ _ _ _ _ _ _ _ k2 k3.wf hx
    exact⟨t',by simp only[k1];exact j1,j2,k3.trans j3⟩
   ·rename_i hn
    obtain⟨t',k1,k2,k3⟩:=ih _ _ _ _ _ _ _ _ h hw hx
    refine⟨t',?_,k2,k3⟩
    rw[k1]
    cases x with
    |normal=>exact absurd hx (hn _ _)
    |exit _=>rfl
    |ret=>rfl
  cases c<;>simp only[exec,step] at hx|-
  case skip=>exact leaf _ hx
  case label l=>exact leaf _ hx
  case exit id=>exact leaf _ hx
  case ret=>exact leaf _ hx
  case region id ops d=>
   cases d with
   |false=>
    simp only at hx|-
    split at hx
    ·rename_i f2 s2 h1
     injection hx with e;injection e with e1 e2;injection e2 with e2 e3;subst e1;subst e2;subst e3
     obtain⟨t',k1,k2,k3⟩:=MY hc _ _ h hw h1
     exact⟨t',by rw[k1],k2,k3⟩
    ·cases hx
   |true=>
    simp only at hx|-
    split at hx
    ·rename_i f2 s2 h1
     injection hx with e;injection e with e1 e2;injection e2 with e2 e3;subst e1;subst e2;subst e3
     obtain⟨t',k1,k2,k3⟩:=Aq hc h hw h1
     exact⟨t',by rw[k1],k2,k3⟩
    ·cases hx
  case seq a b=>exact two a b hx
  case loop a=>exact two a _ hx
  case scope a=>exact ih _ _ _ _ _ _ _ _ h hw hx
  case cond y a b=>
   split at hx
   ·rename_i b0 hy
    split at hx<;>exact ih _ _ _ _ _ _ _ _ h hw hx
   ·cases hx
  case block id a=>
   split at hx
   ·rename_i j f2 s2 h1
    obtain⟨t2,k1,k2,k3⟩:=ih _ _ _ _ _ _ _ _ h hw h1
    simp only[k1]
    split at hx<;>
    ·rename_i hj
     injection hx with e;injection e with e1 e2;injection e2 with e2 e3;subst e1;subst e2;subst e3
     exact⟨t2,by simp only[hj,if_true,if_false,Bool.false_eq_true],k2,k3⟩
   ·rename_i hn
    obtain⟨t',k1,k2,k3⟩:=ih _ _ _ _ _ _ _ _ h hw hx
    refine⟨t',?_,k2,k3⟩
    rw[k1]
    cases x with
    |normal=>rfl
    |exit _=>exact absurd hx (hn _ _ _)
    |ret=>rfl
  all_goals cases hx
theorem G7 {P:Program}{lib:ay}(hl:ln lib)(n:Nat):kL (fx P lib n):=rD hl (Lo hl n)
end Go.Cl
namespace Go.Cl
open Go.RowKit
theorem G8 {f g:aR}(hn:f.n=g.n){x:Operand}(h:∀t:Nat,x= .tmp t->f.get t=g.get t):aS f x=aS g x:=by
 cases x with
 |tmp t=>simp only[aS,hn,h t rfl]
 |const v=>rfl
 |global v=>rfl
 |func v=>rfl
theorem kZ {f g:aR}:∀{l:List Operand},(∀x∈l,aS f x=aS g x)->ad f l=ad g l
 |[],_=>rfl
 |x::r,h=>by
  simp only[ad,h x (List.mem_cons_self ..),kZ (fun y hy=>h y (List.mem_cons_of_mem _ hy))]
theorem pV {f g:aR}:∀{l:List (Nat×Operand)},(∀x∈l,aS f x.2=aS g x.2)->ag f l=ag g l
 |[],_=>rfl
 |x::r,h=>by
  obtain⟨i,x⟩:=x
  simp only[ag,h (i,x) (List.mem_cons_self ..),pV (fun y hy=>h y (List.mem_cons_of_mem _ hy))]
theorem um {f g:aR}{x:Option Operand}(h:∀y,x=some y->aS f y=aS g y):ah f x=ah g x:=by
 cases x with
 |none=>rfl
 |some y=>simp only[ah,h y rfl]
theorem M0 {P:Program}{o:Oper}{f g:aR}(hn:f.n=g.n)(h:∀t:Nat,Operand.tmp t∈o.op.operands.toList->f.get t=g.get t)(s:aq):cy P o f s=cy P o g s:=by
 have ev:∀x∈o.op.operands.toList,aS f x=aS g x:=fun x hx=>G8 hn (fun t ht=>h t (by rw[<-ht];exact hx))
 clear h
 obtain⟨dst,op,type,pos,after,guard⟩:=o
 cases op<;>simp only[Op.operands] at ev
 case call c=>
  obtain⟨callee,args,ts⟩:=c
  have ea:ad f args.toList=ad g args.toList:=kZ (fun x hx=>ev x (by simp only[Call.operands,Array.toList_append];exact List.mem_append_right _ hx))
  cases callee with
  |value y=>
   have ey:=ev y (by simp[Call.operands])
   simp only[cy,ea,ey]
  |builtin b=>simp only[cy,ea]
  |invoke y m=>simp only[cy,ea]
 case makeFunc fn first captured=>
  have e1:ad f first.toList=ad g first.toList:=kZ (fun x hx=>ev x (by rw[Array.toList_append];exact List.mem_append_left _ hx))
  have e2:ad f captured.toList=ad g captured.toList:=kZ (fun x hx=>ev x (by rw[Array.toList_append];exact List.mem_append_right _ hx))
  cases fn<;>simp only[cy,e1,e2]
 case build t ps=>
  have e1:ag f ps.toList=ag g ps.toList:=pV (fun x hx=>ev x.2 (by simpa using⟨x.1,by simpa using hx⟩))
  simp only[cy,e1]
 case buildSlice t n ps=>
  have e1:ag f ps.toList=ag g ps.toList:=pV (fun x hx=>ev x.2 (by simpa using⟨x.1,by simpa using hx⟩))
  simp only[cy,e1]
 case slice t x l hi m=>
  have e0:=ev x (by simp)
  have e1:ah f l=ah g l:=um (fun y hy=>ev y (by simp[hy]))
  have e2:ah f hi=ah g hi:=um (fun y hy=>ev y (by simp[hy]))
  have e3:ah f m=ah g m:=um (fun y hy=>ev y (by simp[hy]))
  simp only[cy,e0,e1,e2,e3]
 all_goals first
  |rfl
  |(simp only[cy];simp at ev;simp only[ev];done)
  |(simp at ev;obtain⟨e1,e2⟩:=ev;simp only[cy,e1,e2];done)
  |(simp at ev;obtain⟨e1,e2,e3⟩:=ev;simp only[cy,e1,e2,e3];done)
  |(rename_i r;cases r<;>rfl)
theorem C7 {ops:List Oper}{o:Oper}{f g:aR}(hn:f.n=g.n)(h:∀t:Nat,t∈wN ops o->f.get t=g.get t):b9 ops o f=b9 ops o g:=by
 unfold b9
 cases hg:o.guard with
 |none=>rfl
 |some p=>
  obtain⟨j,want⟩:=p
  have:pL ops f j=pL ops g j:=by
   unfold pL
   cases hd:ops.drop j with
   |nil=>rfl
   |cons p r=>
    simp only
    cases hpd:p.dst with
    |none=>rfl
    |some d=>
     simp only[hn]
     rw[h d (by simp[wN,hg,hd,hpd])]
  simp only[this]
theorem Pw {P:Program}{base:Nat}{S:St}(h:SR base S){f:aR}{a:Act}(hf:FR S f a){o:Oper}(ha:aB P o=true){id:Nat}(db:ml S id S.s.next){v:Value}{s1:aq}{b:iC}
  (hx:cy P o f ⟨.nil,id⟩=some (.val v s1)) (hb:s1.bK id=some b):
  ∃T v',T.s=S.s.put id (.dL b)/\VR T v v' /\Good base S T/\(execOp a.eval o).run P S.w= .ok (.value v') T.w:=by
 have fc:0<16000001:=by have:=db.lt;have:=h.room;omega
 have fin:∀(m:Sem Value),execOp a.eval o=(do pure (Next.value (<-m)))->rq P base S m v ⟨.nil,id⟩ s1 S.s.next->∃T v',T.s=S.s.put id (.dL b)/\VR T v v' /\Good base S T/\(execOp a.eval o).run P S.w= .ok (.value v') T.w:=by
  intro m he hd
  obtain⟨b',e,T,v',h1,h2,h3,h4⟩:=hd
  have qV:s1.bK id=some b' :=by rw[e];simp only[aq.bK,aq.new,Tr.bu _ _ _ _ (deep fc)]
  rw[hb] at qV
  obtain rfl:=Option.some.inj qV
  exact⟨T,v',h1,h3,h4,by rw[he];exact Lm h2⟩
 have Px:∀r,lZ r=some (.val v s1)->r=some (v,s1):=by
  intro r hr
  cases r with
  |none=>simp[lZ] at hr
  |some p=>
   obtain⟨v2,s2⟩:=p
   simp only[lZ] at hr
   injection hr with hr;injection hr with e1 e2;rw[e1,e2]
 obtain⟨dst,op,type,pos,after,guard⟩:=o
 cases op<;>try (cases ha;done)
 case alloc e=>
  simp only[cy] at hx
  split at hx
  ·rename_i z hz
   split at hx
   ·rename_i hp
    exact fin _ rfl (GV h (s0:=⟨.nil,id⟩) db hz hp (Px _ hx))
   ·cases hx
  ·cases hx
 case box e y=>
  simp only[cy] at hx
  split at hx
  ·rename_i u hu
   exact fin _ rfl (Pc h (s0:=⟨.nil,id⟩) db (bI hf hu) (Px _ hx))
  ·cases hx
 case buildSlice t n ps=>
  simp only[cy] at hx
  split at hx
  ·rename_i l hl
   have pS:aU P ⟨.nil,id⟩ t n l=some (v,s1):=Px _ hx
   have:=rz (P:=P) h (s0:=⟨.nil,id⟩) (next:=S.s.next) db (wW hf hl) pS
   have e:(ps.map fun(x:Nat×Operand)=>(x.1,a.eval x.2))=(ps.toList.map fun x=>(x.1,a.eval x.2)).toArray:=by rw[<-Array.toList_inj];simp
   refine fin (Instr.buildSlice t n (ps.map fun(i,x)=>(i,a.eval x))) (by simp only[execOp]) ?_
   rw[e];exact this
  ·cases hx
 case convert s d y=>
  simp only[cy] at hx
  simp only[aB] at ha
  split at hx
  ·rename_i u hu
   exact fin _ rfl (yf h (s0:=⟨.nil,id⟩) db (bI hf hu) (Px _ hx) ha)
  ·cases hx
 case makeSlice t y z=>
  simp only[cy] at hx
  split at hx
  ·rename_i u w hu hw
   exact fin (Instr.makeSlice t (a.eval y) (a.eval z)) rfl (tN h (s0:=⟨.nil,id⟩) db (bI hf hu) (bI hf hw) (Px _ hx))
  ·cases hx
theorem As {acc:List Nat}:∀{l:List Edge} {m x:Nat},Nat.testBit (pM acc l m) x=true->Nat.testBit m x=true\/∃e∈l,Region.binds .any e=true/\(x=e.on\/Nat.testBit (cC acc e.on) x=true)
 |[],_,_,h=> .inl h
 |e::r,m,x,h=>by
  simp only[pM] at h
  rcases As h with h1|⟨e',h1,h2⟩
  ·split at h1
   ·rename_i hb
    simp only[Nat.testBit_or,Bool.or_eq_true,Nat.testBit_two_pow,decide_eq_true_eq] at h1
    rcases h1 with (h1|h1)|h1
    ·exact .inl h1
    ·exact .inr ⟨e,List.mem_cons_self ..,hb,.inl h1.symm⟩
    ·exact .inr ⟨e,List.mem_cons_self ..,hb,.inr h1⟩
   ·exact .inl h1
  ·exact .inr ⟨e',List.mem_cons_of_mem _ h1,h2⟩
theorem G9 (l m:List Nat):∀i,i<l.length->cC (l++m) i=cC l i:=by
 induction l with
 |nil=>intro i h;simp at h
 |cons x r ih=>
  intro i h
  cases i with
  |zero=>rfl
  |succ k=>exact ih k (by simpa using h)
theorem SN (l:List Nat)(x:Nat)(m:List Nat):cC (l++x::m) l.length=x:=by
 induction l with
 |nil=>rfl
 |cons _ r ih=>exact ih
theorem jP:∀(ops:List Oper) (acc:List Nat),∃r,bW ops acc=acc++r/\r.length=ops.length
 |[],acc=>⟨[],by simp[bW],rfl⟩
 |o::ops,acc=>by
  obtain⟨r,h1,h2⟩:=jP ops (acc++[pM acc o.after.toList 0])
  exact⟨pM acc o.after.toList 0::r,by simp[bW,h1],by simp[h2]⟩
theorem At:∀(ops:List Oper) (acc:List Nat) (k:Nat) (o:Oper),ops[k]?=some o->∃Py,(∀j,j<acc.length+k->cC Py j=cC (bW ops acc) j)/\cC (bW ops acc) (acc.length+k)=pM Py o.after.toList 0
 |[],_,_,_,h=>by simp at h
 |p::ops,acc,0,o,h=>by
  simp only[List.getElem?_cons_zero,Option.some.injEq] at h
  subst h
  obtain⟨r,h1,h2⟩:=jP ops (acc++[pM acc p.after.toList 0])
  refine⟨acc,fun j hj=> ?_,?_⟩
  ·simp only[bW,h1,List.append_assoc]
   rw[G9 _ _ _ (by simpa using hj)]
  ·simp only[bW,h1,List.append_assoc,Nat.add_zero]
   exact SN _ _ _
 |p::ops,acc,k+1,o,h=>by
  simp only[List.getElem?_cons_succ] at h
  obtain⟨Py,h1,h2⟩:=At ops (acc++[pM acc p.after.toList 0]) k o h
  simp only[List.length_append,List.length_singleton] at h1 h2
  refine⟨Py,fun j hj=> ?_,?_⟩
  ·simp only[bW];exact h1 j (by omega)
  ·simp only[bW];rw[<-h2];congr 1;omega
theorem nP:∀(ops:List Oper) {P:Program} (k k' :Nat) {o:Oper},ops[k]?=some o->aB P o=true->k<k' ->aF P (ops.take k)<aF P (ops.take k')
 |[],_,_,_,_,h,_,_=>by simp at h
 |p::ops,P,0,k' +1,o,h,ha,_=>by
  simp only[List.getElem?_cons_zero,Option.some.injEq] at h
  subst h
  simp[aF,ha]
 |p::ops,P,k+1,k' +1,o,h,ha,hk=>by
  simp only[List.getElem?_cons_succ] at h
  have:=nP ops k k' h ha (by omega)
  simp only[List.take_succ_cons,aF]
  split<;>omega
 |_::_,_,_,0,_,_,_,h=>by omega
theorem rE {P:Program}{p:Nat->Bool}:∀(ops:List Oper) (i:Nat),(∀j,i<=j->p j=false)->countP p P ops i=0
 |[],_,_=>rfl
 |o::r,i,h=>by simp only[countP,h i (Nat.le_refl _),Bool.and_false,Bool.false_eq_true,if_false];exact rE r (i+1) (fun j hj=>h j (by omega))
theorem rF {P:Program}{p q:Nat->Bool}:∀(ops:List Oper) (i:Nat),(∀k o,ops[k]?=some o->aY P o=true->p (i+k)=true->q (i+k)=true)->countP p P ops i<=countP q P ops i
 |[],_,_=>Nat.le_refl _
 |o::r,i,h=>by
  have ih:=rF (p:=p) (q:=q) r (i+1) (fun k o ho he hp=>by have:=h (k+1) o (by simpa using ho) he (by rw[show i+(k+1)=i+1+k by omega];exact hp);rwa [show i+(k+1)=i+1+k by omega] at this)
  have h0:=h 0 o rfl
  simp only[countP]
  cases he:aY P o with
  |false=>simpa [he] using ih
  |true=>
   cases hp:p i with
   |false=>simp only[Bool.true_and,Bool.false_eq_true,if_false];split<;>omega
   |true=>
    have:=h0 he hp
    simp only[Nat.add_zero] at this
    simp[this];exact ih
theorem Pz {f f' :aR}{d:Option Tmp}{v:Value}(h:jS f d v=some f'):f'.n=f.n:=by
 unfold jS at h
 split at h
 ·split at h
  ·injection h with h;subst h;rfl
  ·cases h
 ·injection h with h;subst h;rfl
def Ev.after (e:Ev)(T:aq):aq:=
 match e with
 | .zc _ s=>s
 |_=>T
def Ev.more (e:Ev)(i:Nat)(zS:Made):Made:=
 match e with
 | .made _ d b=>zS++[(i,d,b)]
 |_=>zS
theorem DM {i j:Nat}(h:i<=j):Nat.blt j i=false:=by
 cases hb:Nat.blt j i
 ·rfl
 ·rw[Nat.blt_eq] at hb;omega
theorem Fk {P:Program}{call:Call}{all:List Oper}:∀(ops:List Oper) (ms:List Nat) (i id:Nat) (f:aR) (T:aq) (zS:Made) (es:List Ev),ms.length=ops.length->bQ P call all ms ops i id f T zS=some es->
  es.length=ops.length/\∃(F:Nat->aR) (G:Nat->aq),F 0=f/\G 0=T/\bN ops es f=F ops.length/\
   (∀p,p<=ops.length->(ax P ops es T)[countP (fun j=>Nat.blt j (i+p)) P ops i]?=some (G p))/\(∀d,(ax P ops es T).getLastD d=G ops.length)/\
   ∀k o,ops[k]?=some o->∃e,es[k]?=some e/\cV P call all (cC ms k) (id+aF P (ops.take k)) (zS++madeOf (es.take k) i) o (F k) (G k)=some e/\
    jS (F k) o.dst e.val=some (F (k+1))/\G (k+1)=e.after (G k):=by
 intro ops
 induction ops with
 |nil=>
  intro ms i id f T zS es hl hd
  cases ms with
  |cons _ _=>simp at hl
  |nil=>
   simp only[bQ] at hd
   injection hd with hd;subst hd
   exact⟨rfl,fun _=>f,fun _=>T,rfl,rfl,rfl,fun p hp=>rfl,fun d=>rfl,fun k o h=>by simp at h⟩
 |cons o ops ih=>
  intro ms i id f T zS es hl hd
  cases ms with
  |nil=>simp at hl
  |cons m ms=>
   simp only[bQ] at hd
   split at hd
   ·rename_i e he
    split at hd
    ·rename_i f' hp
     split at hd
     ·rename_i Gu Fj
      injection hd with hd;subst hd
      obtain⟨h1,F,G,h2,h3,h4,h5,h6,h7⟩:=ih ms (i+1) _ f' (e.after T) _ Gu (by simpa using hl) Fj
      have Fl:∀v s,e= .zc v s->aY P o=true:=by
       intro v s hee
       subst hee
       unfold cV at he
       split at he
       ·cases he
       ·split at he
        ·split at he<;>cases he
        ·split at he
         ·split at he<;>cases he
         ·cases he
        ·rename_i hq ha;simp[aY,hq,ha]
      refine⟨by simp[h1],fun k=>match k with|0=>f|k+1=>F k,fun k=>match k with|0=>T|k+1=>G k,rfl,rfl,?_,?_,?_,?_⟩
      ·simp only[bN,hp,List.length_cons];exact h4
      ·intro p Jz
       have aA:ax P (o::ops) (e::Gu) T=if aY P o then T::ax P ops Gu (e.after T) else ax P ops Gu (e.after T):=by
        cases e with
        |zc v s=>simp only[ax,Fl v s rfl,if_true];rfl
        |skip=>rfl
        |quiet _=>rfl
        |made _ _ _=>rfl
       cases p with
       |zero=>
        have h0:=rE (P:=P) (p:=fun j=>Nat.blt j (i+0)) (o::ops) i (fun j hj=>DM (by omega))
        rw[h0,aA]
        split
        ·rfl
        ·have e0:(e.after T)=T:=by
          rename_i cD
          cases e<;>try rfl
          exact absurd (Fl _ _ rfl) cD
         have:=h5 0 (Nat.zero_le _)
         rw[rE (P:=P) (p:=fun j=>Nat.blt j (i+1+0)) ops (i+1) (fun j hj=>DM (by omega))] at this
         rw[this,h3,e0]
       |succ p=>
        have:=h5 p (by simpa using Jz)
        have hc:countP (fun j=>Nat.blt j (i+(p+1))) P (o::ops) i=if aY P o then countP (fun j=>Nat.blt j (i+1+p)) P ops (i+1)+1 else countP (fun j=>Nat.blt j (i+1+p)) P ops (i+1):=by
         have e1:(fun j=>Nat.blt j (i+(p+1)))=fun j=>Nat.blt j (i+1+p):=by rw[show i+(p+1)=i+1+p by omega]
         rw[e1]
         simp only[countP]
         have:Nat.blt i (i+1+p)=true:=by simp[Nat.blt_eq];omega
         simp only[this,Bool.and_true]
        rw[hc,aA]
        split
        ·simp only[List.getElem?_cons_succ];exact this
        ·exact this
      ·intro d
       simp only[List.length_cons]
       rw[<-h6 d]
       have cD:ax P ops Gu (e.after T)≠[]:=by
        intro hn
        have:=h5 0 (Nat.zero_le _)
        rw[hn] at this;simp at this
       have oP:∀x:aq,(x::ax P ops Gu (e.after T)).getLastD d=(ax P ops Gu (e.after T)).getLastD d:=by
        intro x
        rw[List.getLastD_cons]
        generalize ax P ops Gu (e.after T)=l at cD
        cases l with
        |nil=>exact absurd rfl cD
        |cons y r=>rw[List.getLastD_cons,List.getLastD_cons]
       simp only[ax]
       cases e<;>simp only at oP|- <;>first
        |exact oP T
        |(split
          ·exact oP T
          ·rfl)
      ·intro k o' hk
       cases k with
       |zero=>
        simp only[List.getElem?_cons_zero,Option.some.injEq] at hk
        subst hk
        exact⟨e,rfl,by simpa [cC,aF,madeOf] using he,by simpa [h2] using hp,by simpa using h3⟩
       |succ k=>
        simp only[List.getElem?_cons_succ] at hk
        obtain⟨e',k1,k2,k3,k4⟩:=h7 k o' hk
        refine⟨e',by simpa using k1,?_,k3,k4⟩
        have ea:(if aB P o then id+1 else id)+aF P (ops.take k)=id+aF P ((o::ops).take (k+1)):=by
         simp only[List.take_succ_cons,aF];split<;>omega
        have em:e.more i zS++madeOf (Gu.take k) (i+1)=zS++madeOf ((e::Gu).take (k+1)) i:=by
         simp only[List.take_succ_cons]
         cases e<;>simp[madeOf,Ev.more]
        rw[<-ea,<-em]
        exact k2
     ·cases hd
    ·cases hd
   ·cases hd
theorem C8 {P:Program}{all:List Oper}{ms:List Nat}{zS:Made}{gL:List aq}:∀(k:Nat) (mr:List Nat) (ops:List Oper) (es:List Ev) (i:Nat) (F:Nat->aR),mr.length=ops.length->bJ P all ms zS gL mr ops es i (F 0)=true->
  (∀k o e,ops[k]?=some o->es[k]?=some e->jS (F k) o.dst e.val=some (F (k+1)))->∀o v,ops[k]?=some o->es[k]?=some (.quiet v)->
  sameAt P (cC mr k) zS o (F k) v ((gL.take (countP (fun j=> !Nat.testBit (cC ms j) (i+k)) P all 0+1)).drop (countP (Nat.testBit (cC mr k)) P all 0))=true:=by
 intro k
 induction k with
 |zero=>
  intro mr ops es i F hl h hF o v ho he
  cases ops with
  |nil=>simp at ho
  |cons p ops=>
   cases mr with
   |nil=>simp at hl
   |cons m mr=>
    cases es with
    |nil=>simp at he
    |cons e es=>
     simp only[List.getElem?_cons_zero,Option.some.injEq] at ho he
     subst ho;subst he
     simp only[bJ,Bool.and_eq_true] at h
     exact h.1
 |succ k ih=>
  intro mr ops es i F hl h hF o v ho he
  cases ops with
  |nil=>simp at ho
  |cons p ops=>
   cases mr with
   |nil=>simp at hl
   |cons m mr=>
    cases es with
    |nil=>simp at he
    |cons e es=>
     have h0:=hF 0 p e rfl rfl
     simp only[bJ,Bool.and_eq_true,h0] at h
     have:=ih mr ops es (i+1) (fun k=>F (k+1)) (by simpa using hl) h.2 (fun k o e ho he=>hF (k+1) o e (by simpa using ho) (by simpa using he)) o v (by simpa using ho) (by simpa using he)
     rw[show i+1+k=i+(k+1) by omega] at this
     exact this
theorem Au {P:Program}{m:Nat}{zS:Made}{o:Oper}{f:aR}{v:Value}:∀{l:List aq} {T:aq},sameAt P m zS o f v l=true->T∈l->∃u t,cy P o f (fill (Nat.testBit m) T zS)=some (.val u t)/\bX v u=true
 |[],_,_,h=>by cases h
 |s::r,T,h,hT=>by
  simp only[sameAt] at h
  split at h
  ·rename_i u t dZ
   rw[Bool.and_eq_true] at h
   rcases List.mem_cons.1 hT with rfl|hT
   ·exact⟨u,t,dZ,h.1⟩
   ·exact Au h.2 hT
  ·cases h
theorem w3 {a b:Value}(h:cW a b=true):a=b:=by
 cases a<;>cases b<;>simp only[cW] at h<;>try (cases h;done)
 all_goals try rfl
 case bool a b=>simpa using h
 case int k a k' b=>
  rw[Bool.and_eq_true] at h
  obtain⟨h1,h2⟩:=h
  split at h1
  ·rename_i e;subst e;rw[beq_iff_eq] at h2;rw[h2]
  ·cases h1
 case string a b=>
  rw[beq_iff_eq] at h
  obtain⟨⟨a⟩⟩:=a
  obtain⟨⟨b⟩⟩:=b
  simp only at h
  rw[h]
 case pointer a b=>split at h<;>first|(rename_i e;rw[e])|cases h
 case map a b=>split at h<;>first|(rename_i e;rw[e])|cases h
 case slice a n c b m d=>
  simp only[Bool.and_eq_true] at h
  obtain⟨⟨h1,h2⟩,h3⟩:=h
  split at h1
  ·rename_i e;rw[e,Nat.eq_of_beq_eq_true h2,Nat.eq_of_beq_eq_true h3]
  ·cases h1
theorem oV:∀{a b:List Value},gp a b=true->a=b
 |[],[],_=>rfl
 |x::r,y::q,h=>by
  simp only[gp,Bool.and_eq_true] at h
  rw[w3 h.1,oV h.2]
 |[],_::_,h=>by cases h
 |_::_,[],h=>by cases h
theorem M1 {a b:Value}(h:Jd a b=true):a=b:=by
 unfold Jd at h
 split at h
 ·rw[Array.toList_inj.1 (oV h)]
 ·exact w3 h
theorem DN:∀{a b:List Value},wO a b=true->a=b
 |[],[],_=>rfl
 |a::r,b::q,h=>by
  simp only[wO,Bool.and_eq_true] at h
  rw[M1 h.1,DN h.2]
 |[],_::_,h=>by simp[wO] at h
 |_::_,[],h=>by simp[wO] at h
theorem PA {a b:Value}(h:bX a b=true):a=b:=by
 unfold bX at h
 split at h
 ·rw[Array.toList_inj.1 (oV h)]
 ·rw[Array.toList_inj.1 (DN h)]
 ·simp only[Bool.and_eq_true] at h
  obtain⟨⟨h1,h2⟩,h3⟩:=h
  have M3:=Nat.eq_of_beq_eq_true h1
  rw[Array.toList_inj.1 (oV h2),Array.toList_inj.1 (oV h3)]
  exact congrArg (fun x=>Value.func (Fn.func x) _ _) M3
 ·exact w3 h
end Go.Cl
namespace Go.Cl
open Go.RowKit
abbrev ig (s t:aq):Prop:=cP s t (fun _=>none)
theorem ig.refl (s:aq):ig s s:=⟨rfl,(fun _ _ h=>by cases h),fun _=>rfl⟩
theorem SR.wf {base:Nat}{S:St}(h:SR base S):WF S.s:=⟨h.room,h.bound⟩
theorem ig.wf {s t:aq}(h:ig s t)(hw:WF t):WF s:=⟨hw.room,fun j o hj=>by rw[<-h.next];exact hw.bound j o (by rw[h.get j];exact hj)⟩
def Fm (P:Program)(Pre:Nat->World->Prop)(g:FuncId)(p:Prim):Prop:=
 ∀(base:Nat) (S:St) (s:aq) (args:List Value) (v:Value) (s' :aq),ig s S.s->SR base S->Pre base S.w->p args s=some (v,s')->∀args' :Array Value,eX S args args'.toList->
  ((∀w,(callFunc g args').run P w= .ok (.enter g args') w)/\Calls P g args' S.w fun e w' =>∃T v',ig s' T.s/\T.w=w' /\e= .returned v' /\VR T v v' /\Good base S T)\/
  ∃T v',(callFunc g args').run P S.w= .ok (.value v') T.w/\ig s' T.s/\VR T v v' /\Good base S T
def w4 (P:Program)(Pre:Nat->World->Prop)(call:Call):Prop:=∀g,Fm P Pre g (call g)
def Av (Pre:Nat->World->Prop):Prop:=∀base w w',Below base w w' ->Pre base w->Pre base w'
theorem FR.put {S:St}{f f' :aR}{a:Act}{d:Option Tmp}{v v' :Value}(hf:FR S f a)(hv:VR S v v')(h:jS f d v=some f'):FR S f' (a.put d v'):=by
 unfold jS at h
 split at h
 ·rename_i t0
  obtain⟨t,rfl⟩:∃t:Nat,t=t0:=⟨t0,rfl⟩
  split at h
  ·rename_i ht
   obtain rfl:=Option.some.inj h
   have M4:t<f.n:=by simpa [Nat.blt_eq] using ht
   have hn:=hf.n
   refine⟨by simp[aR.put,Act.put,hf.n],hf.small,fun u hu=> ?_⟩
   have R4:u<f.n:=hu
   have hts:0<16000001:=by have:=hf.small;omega
   have cJ:t<a.tmps.size:=by omega
   by_cases DO:t=u
   ·subst DO
    have e1:(f.put t v).get t=v:=by simp only[aR.get,aR.put,Tr.bu _ _ _ _ (deep hts)]
    have e2:(a.put (some t) v').tmps.getD t undef=v' :=by
     simp[Act.put,cJ]
    rw[e1,e2];exact hv
   ·have e1:(f.put t v).get u=f.get u:=by simp only[aR.get,aR.put,Tr.ct _ _ _ _ _ DO]
    have e2:(a.put (some t) v').tmps.getD u undef=a.tmps.getD u undef:=by
     simp[Act.put,Array.getElem?_setIfInBounds_ne DO]
    rw[e1,e2];exact hf.get u R4
  ·cases h
 ·obtain rfl:=Option.some.inj h
  exact hf
theorem put_defers (a:Act)(d:Option Tmp)(v:Value):(a.put d v).defers=a.defers:=by cases d<;>rfl
theorem PB {S:St}{f:aR}{a:Act}(hf:FR S f a)(ops:List Oper)(j:Nat):pL ops f j=yielded ops.toArray a.tmps j:=by
 have hj:(ops.toArray)[j]?=(ops.drop j).head?:=by rw[List.getElem?_toArray,List.head?_drop]
 unfold pL yielded
 rw[hj]
 cases ops.drop j with
 |nil=>rfl
 |cons o r=>
  simp only[List.head?_cons,Option.bind_some]
  cases o.dst with
  |none=>rfl
  |some d0=>
   obtain⟨d,rfl⟩:∃d:Nat,d=d0:=⟨d0,rfl⟩
   simp only[Option.bind_some]
   by_cases hd:d<f.n
   ·rw[if_pos (by simpa [Nat.blt_eq] using hd)]
    have hv:=hf.get d hd
    have cJ:d<a.tmps.size:=by rw[<-hf.n];exact hd
    have e:a.tmps[d]?=some (a.tmps.getD d undef):=by simp[cJ]
    rw[e]
    generalize a.tmps.getD d undef=v' at hv
    generalize f.get d=v0 at hv
    cases hv<;>rfl
   ·rw[if_neg (by simpa [Nat.blt_eq] using hd)]
    have e:a.tmps[d]?=none:=Array.getElem?_eq_none (by have:=hf.n;omega)
    rw[e]
theorem DP {S:St}{f:aR}{a:Act}(hf:FR S f a)(ops:List Oper)(o:Oper):b9 ops o f=Region.wanted o (yielded ops.toArray a.tmps):=by
 unfold b9 Region.wanted
 cases o.guard with
 |none=>rfl
 |some p=>
  obtain⟨j,want⟩:=p
  simp only[PB hf]
  cases yielded ops.toArray a.tmps j<;>rfl
def dN (es:List Ev)(j i:Nat)(b:iC):Prop:=∃v,es[j]?=some (.made v i b)
theorem jC:∀{es:List Ev} {n:Nat} {x:Nat×Nat×iC},x∈madeOf es n->∃j,x.1=n+j/\dN es j x.2.1 x.2.2
 |[],_,_,h=>by cases h
 |e::r,n,x,h=>by
  have rest:x∈madeOf r (n+1)->∃j,x.1=n+j/\dN (e::r) j x.2.1 x.2.2:=fun h=>by
   obtain⟨j,h1,v,h2⟩:=jC h
   exact⟨j+1,by omega,v,by simpa using h2⟩
  cases e with
  |made v i b=>
   simp only[madeOf] at h
   rcases List.mem_cons.1 h with rfl|h
   ·exact⟨0,rfl,v,rfl⟩
   ·exact rest h
  |skip=>exact rest h
  |quiet v=>exact rest h
  |zc v s=>exact rest h
theorem pW:∀{es:List Ev} {n j i:Nat} {b:iC},dN es j i b->(n+j,i,b)∈madeOf es n
 |[],_,_,_,_,⟨v,h⟩=>by simp at h
 |e::r,n,0,i,b,⟨v,h⟩=>by
  simp only[List.getElem?_cons_zero,Option.some.injEq] at h
  subst h
  exact List.mem_cons_self ..
 |e::r,n,j+1,i,b,⟨v,h⟩=>by
  have:=pW (es:=r) (n:=n+1) (j:=j) ⟨v,by simpa using h⟩
  rw[show n+1+j=n+(j+1) by omega] at this
  cases e<;>simp only[madeOf]<;>first
   |exact List.mem_cons_of_mem _ this
   |exact this
structure zh (es:List Ev) (T:aq) (q:Nat->Prop) (s:aq):Prop where
 next:s.next=T.next
 old:∀i o,T.heap.get i=some o->s.heap.get i=some o
 new:∀i j b,T.heap.get i=none->dN es j i b->q j->s.heap.get i=some (.dL b)
 gone:∀i,T.heap.get i=none->(∀j b,dN es j i b->¬q j)->s.heap.get i=none
def diff (s s' :aq)(i:Nat):Option AO:=
 match s.heap.get i with
 |some _=>none
 |none=>s'.heap.get i
theorem zh.YK {es:List Ev}{T s s' :aq}{q q' :Nat->Prop}(hb:∀j i b,dN es j i b->i<T.next)(h:zh es T q s)(h' :zh es T q' s')(hq:∀j,q j->q' j):cP s s' (diff s s'):=by
 refine⟨by rw[h.next,h'.next],fun j o hj=> ?_,fun j=> ?_⟩
 ·unfold diff at hj
  split at hj
  ·cases hj
  ·rename_i hs
   refine⟨hs,?_⟩
   rw[h.next]
   cases hT:T.heap.get j with
   |some o' =>rw[h.old j o' hT] at hs;cases hs
   |none=>
    by_cases hx:∃jj b,dN es jj j b
    ·obtain⟨jj,b,hx⟩:=hx;exact hb _ _ _ hx
    ·rw[h'.gone j hT (fun jj b hm=>absurd ⟨jj,b,hm⟩ hx)] at hj;cases hj
 ·unfold diff
  cases hs:s.heap.get j with
  |none=>simp only;cases s'.heap.get j<;>rfl
  |some o=>
   simp only
   cases hT:T.heap.get j with
   |some o' =>rw[h'.old j o' hT,<-hs,h.old j o' hT]
   |none=>
    by_cases hx:∃jj b,dN es jj j b/\q jj
    ·obtain⟨jj,b,hx,OE⟩:=hx
     rw[h'.new j jj b hT hx (hq jj OE),<-hs,h.new j jj b hT hx OE]
    ·rw[h.gone j hT (fun jj b hm OE=>hx ⟨jj,b,hm,OE⟩)] at hs;cases hs
theorem PC {p:Nat->Bool}:∀{zS:Made} {j i:Nat} {b:iC},(j,i,b)∈zS->p j=true->Ln p zS i≠none
 |[],_,_,_,h,_=>by cases h
 |(j',i',b')::r,j,i,b,h,hp=>by
  simp only[Ln]
  split
  ·simp
  ·rename_i hn
   rcases List.mem_cons.1 h with e|h
   ·injection e with e1 e2;injection e2 with e2 e3;subst e1;subst e2
    exact absurd ⟨hp,rfl⟩ hn
   ·exact PC h hp
theorem Aw {es:List Ev}{p:Nat->Bool}{T:aq}{zS:Made}(hb:∀x∈zS,0<16000001)(h1:∀j i b,dN es j i b->p j=true->(j,i,b)∈zS)(h2:∀x∈zS,dN es x.1 x.2.1 x.2.2)
  (hu:∀j j' i b b',dN es j i b->dN es j' i b' ->j=j' /\b=b'):zh es T (fun j=>p j=true) (fill p T zS):=by
 obtain⟨n1,g1⟩:=vi p zS T hb
 refine⟨n1,fun i o hi=>by rw[g1,hi],fun i j b hi hm hp=> ?_,fun i hi hn=> ?_⟩
 ·rw[g1,hi]
  cases hs:Ln p zS i with
  |none=>exact absurd hs (PC (h1 j i b hm hp) hp)
  |some o=>
   obtain⟨j',b',k1,_,rfl⟩:=vj hs
   obtain⟨_,rfl⟩:=hu _ _ _ _ _ hm (h2 _ k1)
   rfl
 ·rw[g1,hi]
  cases hs:Ln p zS i with
  |none=>rfl
  |some o=>
   obtain⟨j',b',k1,k2,rfl⟩:=vj hs
   exact absurd k2 (hn _ _ (h2 _ k1))
theorem zh.step {es:List Ev}{T s t s1 t' :aq}{q q' :Nat->Prop}(h:zh es T q s)(h' :zh es T q' t)(ha:cP s1 t' (diff s t))(hk:bL s s1):zh es s1 q' t' :=by
 have UG:∀i,s1.heap.get i=none->s.heap.get i=none/\T.heap.get i=none:=fun i hi=>by
  have e1:s.heap.get i=none:=by
   cases hs:s.heap.get i with
   |none=>rfl
   |some o=>exact absurd hi (hk.here i (by rw[hs];simp))
  refine⟨e1,?_⟩
  cases hT:T.heap.get i with
  |none=>rfl
  |some o=>rw[h.old i o hT] at e1;cases e1
 refine⟨ha.next,fun i o hi=>ha.same hi,fun i j b hi hm hq=> ?_,fun i hi hn=> ?_⟩
 ·obtain⟨e1,e2⟩:=UG i hi
  rw[ha.get i]
  simp only[diff,e1,h'.new i j b e2 hm hq]
 ·obtain⟨e1,e2⟩:=UG i hi
  rw[ha.get i]
  simp only[diff,e1,h'.gone i e2 hn,hi]
theorem zh.same {es:List Ev}{T s s' :aq}{q:Nat->Prop}(h:zh es T q s)(hs:ig s s'):zh es T q s' :=
 ⟨by rw[hs.next,h.next],fun i o hi=>by rw[hs.get i];exact h.old i o hi,fun i j b hi hm hq=>by rw[hs.get i];exact h.new i j b hi hm hq,fun i hi hn=>by rw[hs.get i];exact h.gone i hi hn⟩
theorem zh.congr {es:List Ev}{T s:aq}{q q' :Nat->Prop}(h:zh es T q s)(hq:∀j i b,dN es j i b->(q' j↔q j)):zh es T q' s:=
 ⟨h.next,h.old,fun i j b hi hm OE=>h.new i j b hi hm ((hq j i b hm).1 OE),fun i hi hn=>h.gone i hi (fun j b hm OE=>hn j b hm ((hq j i b hm).2 OE))⟩
theorem zh.put {es:List Ev}{T s:aq}{q q' :Nat->Prop}(h:zh es T q s){j i:Nat}{b:iC}(hm:dN es j i b)(hi:s.heap.get i=none)(aP:0<16000001)
  (hu:∀j j' i b b',dN es j i b->dN es j' i b' ->j=j' /\b=b') (hq:∀k,q' k↔k=j\/q k):zh es T q' (s.put i (.dL b)):=by
 have self:(s.put i (.dL b)).heap.get i=some (.dL b):=by simp only[aq.put,Tr.bu _ _ _ _ (deep aP)]
 refine⟨h.next,fun k o hk=> ?_,fun k j' b' hk R5 OE=> ?_,fun k hk hn=> ?_⟩
 ·have O1:i≠k:=fun e=>by subst e;rw[h.old _ o hk] at hi;cases hi
  rw[aq.a8 _ _ _ _ O1];exact h.old k o hk
 ·by_cases O1:i=k
  ·subst O1
   obtain⟨_,rfl⟩:=hu _ _ _ _ _ hm R5
   exact self
  ·rw[aq.a8 _ _ _ _ O1]
   refine h.new k j' b' hk R5 ?_
   rcases(hq j').1 OE with rfl|h'
   ·obtain⟨v,e1⟩:=hm
    obtain⟨v',e2⟩:=R5
    rw[e1] at e2
    injection e2 with e2;injection e2 with _ e3 _
    exact absurd e3 O1
   ·exact h'
 ·have O1:i≠k:=fun e=>by subst e;exact hn j b hm ((hq j).2 (.inl rfl))
  rw[aq.a8 _ _ _ _ O1]
  exact h.gone k hk (fun j' b' R5 OE=>hn j' b' R5 ((hq j').2 (.inr OE)))
theorem pX {P:Program}{call:Call}{all:List Oper}{m id:Nat}{zS:Made}{o:Oper}{f:aR}{T:aq}{e:Ev}(h:cV P call all m id zS o f T=some e):
  (b9 all o f=false/\e= .skip)\/(b9 all o f=true/\((aI P o=true/\∃v,e= .quiet v)\/
   (aI P o=false/\aB P o=true/\∃v s1 b,e= .made v id b/\cy P o f ⟨.nil,id⟩=some (.val v s1)/\s1.bK id=some b)\/
   (aY P o=true/\∃v s1,e= .zc v s1/\(cy P o f (fill (Nat.testBit m) T zS)=some (.val v s1)\/∃g args,cy P o f (fill (Nat.testBit m) T zS)=some (.call g args)/\call g args (fill (Nat.testBit m) T zS)=some (v,s1))))):=by
 unfold cV at h
 split at h
 ·rename_i hw;injection h with h;exact .inl ⟨hw,h.symm⟩
 ·rename_i hw
  refine .inr ⟨hw,?_⟩
  split at h
  ·rename_i hq
   split at h
   ·injection h with h;exact .inl ⟨hq,_,h.symm⟩
   ·cases h
  ·rename_i hq ha
   split at h
   ·rename_i v s1 dZ
    split at h
    ·rename_i b hb
     injection h with h;exact .inr (.inl ⟨hq,ha,v,s1,b,h.symm,dZ,hb⟩)
    ·cases h
   ·cases h
  ·rename_i hq ha
   have he:aY P o=true:=by simp[aY,hq,ha]
   split at h
   ·rename_i v s1 dZ
    injection h with h;exact .inr (.inr ⟨he,v,s1,h.symm,.inl dZ⟩)
   ·rename_i g args dZ
    split at h
    ·rename_i v s1 hc
     injection h with h;exact .inr (.inr ⟨he,v,s1,h.symm,.inr ⟨g,args,dZ,hc⟩⟩)
    ·cases h
   ·cases h
structure jQ (P:Program) (call:Call) (ops:List Oper) (f0:aR) (s0:aq) (es:List Ev) (F:Nat->aR) (G:Nat->aq):Prop where
 len:es.length=ops.length
 F0:F 0=f0
 G0:G 0=⟨s0.heap,s0.next+aF P ops⟩
 room:0<=16000000
 op:∀k o,ops[k]?=some o->∃e,es[k]?=some e/\cV P call ops (cC (bW ops []) k) (s0.next+aF P (ops.take k)) (madeOf (es.take k) 0) o (F k) (G k)=some e/\
  jS (F k) o.dst e.val=some (F (k+1))/\G (k+1)=e.after (G k)
 same:∀k o v p,ops[k]?=some o->es[k]?=some (.quiet v)->p<=ops.length->(∀x o',ops[x]?=some o' ->aY P o' =true->Nat.testBit (cC (bW ops []) k) x=true->x<p)->
  (∀x o',ops[x]?=some o' ->aY P o' =true->x<p->Nat.testBit (cC (bW ops []) x) k=false)->
  ∃t,cy P o (F k) (fill (Nat.testBit (cC (bW ops []) k)) (G p) (madeOf es 0))=some (.val v t)
theorem C9 {P:Program}{call:Call}{ops:List Oper}{f f' :aR}{s s' :aq}(h:fj P call ops f s=some (f',s')):
  ∃es F G,jQ P call ops f s es F G/\f' =F ops.length/\s' =fill (fun _=>true) (G ops.length) (madeOf es 0):=by
 unfold fj at h
 split at h
 ·cases h
 rename_i hle
 split at h
 case h_2=>cases h
 rename_i es hd
 split at h
 case h_2=>cases h
 rename_i Gx
 injection h with h;injection h with e1 e2;subst e1;subst e2
 have zD:(bW ops []).length=ops.length:=by
  obtain⟨r,h1,h2⟩:=jP ops []
  rw[h1];simpa using h2
 obtain⟨h1,F,G,h2,h3,h4,h5,h6,h7⟩:=Fk ops (bW ops []) 0 s.next f _ [] es zD hd
 refine⟨es,F,G,⟨h1,h2,h3,by omega,fun k o ho=>by simpa using h7 k o ho,?_⟩,h4,by rw[h6]⟩
 intro k o v p ho he hp nM OA
 rw[<-h2] at Gx
 have hs:=C8 k (bW ops []) ops es 0 F zD Gx (fun k o e ho he=>by
  obtain⟨e',k1,_,k3,_⟩:=h7 k o ho
  rw[he] at k1;injection k1 with k1;subst k1;exact k3) o v ho he
 have aA:=h5 p hp
 simp only[Nat.zero_add] at aA hs
 have c1:countP (Nat.testBit (cC (bW ops []) k)) P ops 0<=countP (fun j=>Nat.blt j p) P ops 0:=rF ops 0 (fun x o' j8 zd hx=>by
  simp only[Nat.zero_add] at hx|-
  rw[Nat.blt_eq];exact nM x o' j8 zd hx)
 have c2:countP (fun j=>Nat.blt j p) P ops 0<=countP (fun j=> !Nat.testBit (cC (bW ops []) j) k) P ops 0:=rF ops 0 (fun x o' j8 zd hx=>by
  simp only[Nat.zero_add,Nat.blt_eq] at hx|-
  rw[OA x o' j8 zd hx];rfl)
 generalize countP (fun j=>Nat.blt j p) P ops 0=c at*
 generalize countP (Nat.testBit (cC (bW ops []) k)) P ops 0=lo at*
 generalize countP (fun j=> !Nat.testBit (cC (bW ops []) j) k) P ops 0=hi at*
 have jU:G p∈(((ax P ops es ⟨s.heap,s.next+aF P ops⟩).take (hi+1)).drop lo):=by
  refine List.mem_of_getElem? (i:=c-lo) ?_
  rw[List.getElem?_drop,show lo+(c-lo)=c by omega,List.getElem?_take,if_pos (by omega),aA]
 obtain⟨u,t,k1,k2⟩:=Au hs jU
 rw[PA k2]
 exact⟨t,k1⟩
section
variable {P:Program} {call:Call} {ops:List Oper} {f0:aR} {s0:aq} {es:List Ev} {F:Nat->aR} {G:Nat->aq}
theorem jQ.made (h:jQ P call ops f0 s0 es F G){j i:Nat}{b:iC}(hm:dN es j i b):∃o,ops[j]?=some o/\aB P o=true/\aI P o=false/\i=s0.next+aF P (ops.take j):=by
 obtain⟨v,hm⟩:=hm
 have aP:j<ops.length:=by rw[<-h.len];exact(List.getElem?_eq_some_iff.1 hm).1
 obtain⟨e,h1,h2,_,_⟩:=h.op j ops[j] (List.getElem?_eq_getElem aP)
 rw[hm] at h1;injection h1 with h1;subst h1
 refine⟨ops[j],List.getElem?_eq_getElem aP,?_⟩
 rcases pX h2 with ⟨_,e⟩|⟨_,⟨_,v',e⟩|⟨hq,ha,v',s1,b',e,_⟩|⟨_,v',s1,e,_⟩⟩
 ·cases e
 ·cases e
 ·injection e with _ e _;exact⟨ha,hq,e⟩
 ·cases e
theorem jQ.uniq (h:jQ P call ops f0 s0 es F G):∀j j' i b b',dN es j i b->dN es j' i b' ->j=j' /\b=b' :=by
 intro j j' i b b' h1 h2
 obtain⟨o,k1,k2,_,k3⟩:=h.made h1
 obtain⟨o',l1,l2,_,l3⟩:=h.made h2
 have hj:j=j' :=by
  rcases Nat.lt_trichotomy j j' with aP|e|aP
  ·have:=nP ops j j' k1 k2 aP;omega
  ·exact e
  ·have:=nP ops j' j l1 l2 aP;omega
 subst hj
 obtain⟨v,e1⟩:=h1
 obtain⟨v',e2⟩:=h2
 rw[e1] at e2;injection e2 with e2;injection e2 with _ _ e3
 exact⟨rfl,e3⟩
theorem jQ.bound (h:jQ P call ops f0 s0 es F G){j i:Nat}{b:iC}(hm:dN es j i b):s0.next<=i/\i<s0.next+aF P ops:=by
 obtain⟨o,k1,k2,_,k3⟩:=h.made hm
 have:=nP ops j ops.length k1 k2 (List.getElem?_eq_some_iff.1 k1).1
 rw[List.take_length] at this
 omega
theorem jQ.tx (h:jQ P call ops f0 s0 es F G)(hc:kL call)(hw:WF s0):∀k,k<=ops.length->fN s0.next (G 0) (G k):=by
 have z6:WF (G 0):=by rw[h.G0];exact⟨h.room,fun j o hj=>by have:=hw.bound j o hj;show j<s0.next+_;omega⟩
 intro k
 induction k with
 |zero=>intro _;exact fN.refl z6
 |succ k ih=>
  intro hk
  have ik:=ih (by omega)
  obtain⟨e,h1,h2,_,h4⟩:=h.op k ops[k] (List.getElem?_eq_getElem (by omega))
  have SO:(G 0).next=s0.next+aF P ops:=by rw[h.G0]
  have fc:∀x∈madeOf (es.take k) 0,s0.next<=x.2.1/\x.2.1<(G k).next:=fun x hx=>by
   obtain⟨j,hj,v,hm⟩:=jC hx
   have R5:dN es j x.2.1 x.2.2:=⟨v,by
    rw[List.getElem?_take] at hm
    split at hm
    ·exact hm
    ·cases hm⟩
   have:=h.bound R5
   have:=ik.next
   omega
  have kf:=fN.fill ik.wf fc (Nat.testBit (cC (bW ops []) k))
  have hB:s0.next<=(fill (Nat.testBit (cC (bW ops []) k)) (G k) (madeOf (es.take k) 0)).next:=by
   have:=kf.next;have:=ik.next;omega
  rw[h4]
  rcases pX h2 with ⟨_,e⟩|⟨_,⟨_,v',e⟩|⟨hq,ha,v',s1,b',e,_⟩|⟨_,v',s1,e,he⟩⟩<;>subst e
  ·exact ik
  ·exact ik
  ·exact ik
  ·refine ik.trans (kf.trans ?_)
   rcases he with dZ|⟨g,args,dZ,mP⟩
   ·obtain⟨_,_,_,k3⟩:=j7 (ig.refl _) kf.wf dZ
    exact k3.toB hB
   ·obtain⟨_,_,_,k3⟩:=hc _ _ _ _ _ _ _ (ig.refl _) kf.wf mP
    exact k3.toB hB
theorem jQ.Gc (h:jQ P call ops f0 s0 es F G)(a:Nat):∀b,a<=b->b<=ops.length->(∀x o,a<=x->x<b->ops[x]?=some o->aY P o=false)->G b=G a:=by
 intro b
 induction b with
 |zero=>intro CZ _ _;rw[Nat.le_zero.1 CZ]
 |succ b ih=>
  intro CZ hb hx
  by_cases VW:a=b+1
  ·rw[VW]
  obtain⟨e,h1,h2,_,h4⟩:=h.op b ops[b] (List.getElem?_eq_getElem (by omega))
  have cD:=hx b _ (by omega) (by omega) (List.getElem?_eq_getElem (show b<ops.length by omega))
  rw[h4,<-ih (by omega) (by omega) (fun x o h1 h2 h3=>hx x o h1 (by omega) h3)]
  rcases pX h2 with ⟨_,e⟩|⟨_,⟨_,v',e⟩|⟨hq,ha,v',s1,b',e,_⟩|⟨he,_⟩⟩
  ·subst e;rfl
  ·subst e;rfl
  ·subst e;rfl
  ·rw[cD] at he;cases he
theorem jQ.Geq (h:jQ P call ops f0 s0 es F G){a b:Nat}(ha:a<=ops.length)(hb:b<=ops.length)(hx:∀x o,ops[x]?=some o->aY P o=true->(x<a↔x<b)):G a=G b:=by
 rcases Nat.le_total a b with CZ|CZ
 ·refine(h.Gc a b CZ hb (fun x o h1 h2 h3=> ?_)).symm
  cases he:aY P o with
  |false=>rfl
  |true=>have:=(hx x o h3 he).2 h2;omega
 ·refine h.Gc b a CZ ha (fun x o h1 h2 h3=> ?_)
  cases he:aY P o with
  |false=>rfl
  |true=>have:=(hx x o h3 he).1 h2;omega
theorem yo {f f' :aR}{d:Option Tmp}{v:Value}{t:Nat}(h:jS f d v=some f')(hd:d≠some t):f'.get t=f.get t:=by
 unfold jS at h
 split at h
 ·split at h
  ·injection h with h;subst h
   rename_i u _
   have hu:u≠t:=fun e=>hd (by rw[e])
   simp only[aR.get,aR.put,Tr.ct _ _ _ _ _ hu]
  ·cases h
 ·injection h with h;subst h;rfl
theorem tP {f f' :aR}{v:Value}{t:Nat}(h:jS f (some t) v=some f')(_:f.n<=16000000):f'.get t=v:=by
 unfold jS at h
 simp only at h
 split at h
 ·rename_i ht
  have M4:t<f.n:=by simpa [Nat.blt_eq] using ht
  injection h with h;subst h
  simp only[aR.get,aR.put,Tr.bu _ _ _ _ (deep (show 0<16000001 by omega))]
 ·cases h
theorem M5 {f g f' :aR}{d:Option Tmp}{v:Value}(h:jS f d v=some f')(hn:g.n=f.n):∃g',jS g d v=some g' :=by
 unfold jS at*
 cases d with
 |none=>exact⟨g,rfl⟩
 |some t=>
  simp only at h|-
  rw[hn]
  split at h
  ·rename_i ht;rw[if_pos ht];exact⟨_,rfl⟩
  ·cases h
theorem jQ.Fn (h:jQ P call ops f0 s0 es F G):∀k,k<=ops.length->(F k).n=f0.n:=by
 intro k
 induction k with
 |zero=>intro _;rw[h.F0]
 |succ k ih=>
  intro hk
  obtain⟨e,_,_,h3,_⟩:=h.op k ops[k] (List.getElem?_eq_getElem (by omega))
  rw[Pz h3];exact ih (by omega)
theorem jQ.Fc (h:jQ P call ops f0 s0 es F G)(t a:Nat):∀b,a<=b->b<=ops.length->(∀x o,a<=x->x<b->ops[x]?=some o->o.dst≠some t)->(F b).get t=(F a).get t:=by
 intro b
 induction b with
 |zero=>intro CZ _ _;rw[Nat.le_zero.1 CZ]
 |succ b ih=>
  intro CZ hb hx
  by_cases VW:a=b+1
  ·rw[VW]
  obtain⟨e,h1,_,h3,_⟩:=h.op b ops[b] (List.getElem?_eq_getElem (by omega))
  have cD:=hx b _ (by omega) (by omega) (List.getElem?_eq_getElem (show b<ops.length by omega))
  rw[yo h3 cD]
  exact ih (by omega) (by omega) (fun x o h1 h2 h3=>hx x o h1 (by omega) h3)
theorem nQ (h:q6 P ops=true){y:Nat}{o:Oper}(ho:ops[y]?=some o){e:Edge}(he:e∈o.after.toList)(hb:Region.binds .any e=true):e.on<y:=by
 simp only[q6,List.all_eq_true,Bool.and_eq_true] at h
 have:=(h (o,y) (by rw[List.mem_zipIdx_iff_getElem?];simpa using ho)).1 e he
 simpa [hb,Nat.blt_eq] using this
theorem DQ (h:q6 P ops=true){x y:Nat}{ox oy:Oper}(hx:ops[x]?=some ox)(hy:ops[y]?=some oy)(aP:x<y)(hd:mj P ops ox oy=true):Nat.testBit (cC (bW ops []) y) x=true:=by
 simp only[q6,List.all_eq_true,Bool.and_eq_true] at h
 have:=(h (oy,y) (by rw[List.mem_zipIdx_iff_getElem?];simpa using hy)).2 (ox,x) (by rw[List.mem_zipIdx_iff_getElem?];simpa using hx)
 have hb:Nat.blt x y=true:=by rw[Nat.blt_eq];exact aP
 simpa [hb,hd] using this
def gM (ops:List Oper)(L:Nat->Prop):Prop:=∀y o,ops[y]?=some o->L y->∀e∈o.after.toList,Region.binds .any e=true->L e.on
theorem VX (h:q6 P ops=true){L:Nat->Prop}(hc:gM ops L):∀y o,ops[y]?=some o->(∀e∈o.after.toList,Region.binds .any e=true->L e.on)->∀x,Nat.testBit (cC (bW ops []) y) x=true->L x:=by
 intro y
 induction y using Nat.strongRecOn with
 |ind y ih=>
  intro o ho he x hx
  obtain⟨Py,h1,h2⟩:=At ops [] y o ho
  simp only[List.length_nil,Nat.zero_add] at h1 h2
  rw[h2] at hx
  rcases As hx with h0|⟨e,e1,e2,e3⟩
  ·simp at h0
  ·have aP:=nQ h ho e1 e2
   have hL:=he e e1 e2
   rcases e3 with rfl|e3
   ·exact hL
   ·rw[h1 _ aP] at e3
    have GQ:=(List.getElem?_eq_some_iff.1 ho).1
    have hoe:ops[e.on]?=some ops[e.on]:=List.getElem?_eq_getElem (show e.on<ops.length by omega)
    exact ih e.on aP _ hoe (hc _ _ hoe hL) x e3
theorem SP (h:q6 P ops=true){y:Nat}{o:Oper}(ho:ops[y]?=some o){x:Nat}(hx:Nat.testBit (cC (bW ops []) y) x=true):x<y:=
 VX h (L:=fun x=>x<y) (fun _ _ hz hL _ he hb=>Nat.lt_trans (nQ h hz he hb) hL) y o ho (fun _ he hb=>nQ h ho he hb) x hx
theorem rel (h:q6 P ops=true){L:Nat->Prop}(hc:gM ops L){i:Nat}{o:Oper}(ho:ops[i]?=some o)(hn:¬L i)(he:∀e∈o.after.toList,Region.binds .any e=true->L e.on)
  {x:Nat} {ox:Oper} (hx:ops[x]?=some ox) (h1:x<i->mj P ops ox o=true) (h2:i<x->mj P ops o ox=true):x<i↔L x:=by
 rcases Nat.lt_trichotomy x i with aP|e|aP
 ·exact⟨fun _=>VX h hc i o ho he x (DQ h hx ho aP (h1 aP)),fun _=>aP⟩
 ·subst e;exact⟨fun hl=>absurd hl (Nat.lt_irrefl _),fun hl=>absurd hl hn⟩
 ·refine⟨fun hl=>by omega,fun hl=> ?_⟩
  exact absurd (VX h hc x ox hx (hc x ox hx hl) i (DQ h ho hx aP (h2 aP))) hn
def Inv (P:Program)(base:Nat)(S0:St)(a0:Act)(ops:List Oper)(es:List Ev)(F:Nat->aR)(G:Nat->aq)(L:Nat->Prop)(a:Act)(w:World):Prop:=
 ∃(S:St) (g:aR) (p:Nat),S.w=w/\Good base S0 S/\FR S g a/\a.defers=a0.defers/\g.n=(F 0).n/\p<=ops.length/\(∀x o,ops[x]?=some o->aY P o=true->(x<p↔L x))/\zh es (G p) L S.s/\
  (∀j i b,dN es j i b->¬L j->S.s.heap.get i=none)/\(∀i,i<=ops.length->∀t:Nat,(∀x o,ops[x]?=some o->o.dst=some t->(x<i↔L x))->g.get t=(F i).get t)
theorem w5 {l:List Nat}{d:Option Tmp}{t:Nat}(hd:d=some t)(ht:t∈l):My l d=true:=by
 subst hd
 simp only[My,List.any_eq_true]
 exact⟨t,ht,Nat.beq_refl t⟩
theorem PD (h:jQ P call ops f0 s0 es F G)(w6:q6 P ops=true)(hc:kL call){Pre:Nat->World->Prop}(dE:w4 P Pre call){base:Nat}{S0:St}{a0:Act}(R6:WF s0)(aA:Av Pre)(gY:Pre base S0.w){L L' :Nat->Prop}(mP:gM ops L){a:Act}{w:World}(hinv:Inv P base S0 a0 ops es F G L a w)
  {i:Nat} {o:Oper} (ho:ops[i]?=some o) (hn:¬L i) (he:∀e∈o.after.toList,Region.binds .any e=true->L e.on) (Ha:∀j,L' j↔j=i\/L j) {K:Act->World->Prop} {Q:Exit->Act->World->Prop}
  (hK:∀a w,Inv P base S0 a0 ops es F G L' a w->K a w):wpOp P ops.toArray Q i K a w:=by
 obtain⟨S,g,p,rfl,hg,hf,VY,hgn,hp,Fl,zi,gI,l5⟩:=hinv
 obtain⟨ev,SQ,YL,gr,hG⟩:=h.op i o ho
 have OG:i<ops.length:=(List.getElem?_eq_some_iff.1 ho).1
 have hgF:g.n=(F i).n:=by rw[hgn,h.F0,h.Fn i (by omega)]
 obtain⟨g',YM⟩:=M5 gr hgF
 have wX:=hf.small
 have YN:=h.tx hc R6 p hp
 have acp:(G 0).next=s0.next+aF P ops:=by rw[h.G0]
 have VZ:∀j k b,dN es j k b->k<(G p).next:=fun j k b hm=>by have:=(h.bound hm).2;have:=YN.next;omega
 have mn:∀t:Nat,t∈wN ops o->g.get t=(F i).get t:=fun t ht=>l5 i (by omega) t (fun x ox hx hd=>rel w6 mP ho hn he hx
  (fun _=>by simp only[mj,w5 hd ht,Bool.or_true,Bool.true_or])
  (fun _=>by simp only[mj,w5 hd ht,Bool.or_true,Bool.true_or]))
 have YO:∀t:Nat,Operand.tmp t∈o.op.operands.toList->(F i).get t=g.get t:=fun t ht=>(mn t (by
  simp only[wN,List.mem_append,List.mem_filterMap]
  exact .inl ⟨_,ht,rfl⟩)).symm
 have YP:b9 ops o g=b9 ops o (F i):=C7 hgF mn
 have Fo:∀s,cy P o (F i) s=cy P o g s:=fun s=>M0 hgF.symm YO s
 have jD:∀i',i' <=ops.length->∀t:Nat,(∀x ox,ops[x]?=some ox->ox.dst=some t->(x<i' ↔L' x))->g'.get t=(F i').get t:=by
  intro i' u9 t ht
  by_cases hd:o.dst=some t
  ·have XU:i<i' :=(ht i o ho hd).2 ((Ha i).2 (.inl rfl))
   have e1:g'.get t=ev.val:=by rw[hd] at YM;exact tP YM wX
   have e2:(F (i+1)).get t=ev.val:=by rw[hd] at gr;exact tP gr (by rw[<-hgF];exact wX)
   rw[e1,<-e2]
   refine(h.Fc t (i+1) i' (by omega) u9 (fun x ox h1 h2 h3 h4=> ?_)).symm
   have hLx:L x:=by
    rcases(Ha x).1 ((ht x ox h3 h4).1 h2) with e|hl
    ·omega
    ·exact hl
   have:=(rel w6 mP ho hn he h3 (fun _=>by omega) (fun _=>by
    have:My o.dst.toList ox.dst=true:=w5 h4 (by rw[hd];simp)
    simp only[mj,this,Bool.or_true])).2 hLx
   omega
  ·rw[yo YM hd]
   refine l5 i' u9 t (fun x ox hx hdx=> ?_)
   rw[ht x ox hx hdx,Ha x]
   have:x≠i:=fun e=>by subst e;rw[ho] at hx;injection hx with hx;subst hx;exact hd hdx
   simp[this]
 have acq:g'.n=(F 0).n:=by rw[Pz YM,hgn]
 have fin:∀(T:St) (v' :Value) (p' :Nat),Good base S T->VR T ev.val v' ->p' <=ops.length->(∀x ox,ops[x]?=some ox->aY P ox=true->(x<p' ↔L' x))->zh es (G p') L' T.s->
   (∀j k b,dN es j k b->¬L' j->T.s.heap.get k=none)->K (a.put o.dst v') T.w:=by
  intro T v' p' M6 hv Jz YQ YR Fp
  exact hK _ _ ⟨T,g',p',rfl,hg.trans M6,(hf.mono M6.ext).put hv YM,(put_defers _ _ _).trans VY,acq,Jz,YQ,YR,Fp,jD⟩
 have JA:aY P o=false->∀x ox,ops[x]?=some ox->aY P ox=true->(x<p↔L' x):=fun cD x ox hx hex=>by
  rw[Fl x ox hx hex,Ha x]
  have:x≠i:=fun e=>by subst e;rw[ho] at hx;injection hx with hx;subst hx;rw[cD] at hex;cases hex
  simp[this]
 have UH:aY P o=true->∀x ox,ops[x]?=some ox->aY P ox=true->(x<i↔L x):=fun cD x ox hx hex=>rel w6 mP ho hn he hx
  (fun _=>by simp only[mj,hex,cD,Bool.and_self,Bool.true_or]) (fun _=>by simp only[mj,hex,cD,Bool.and_self,Bool.true_or])
 have UI:aY P o=true->∀x ox,ops[x]?=some ox->aY P ox=true->(x<i+1↔L' x):=fun cD x ox hx hex=>by
  rw[Ha x,<-UH cD x ox hx hex]
  omega
 have YS:aY P o=true->G p=G i:=fun cD=>h.Geq hp (by omega) (fun x ox hx hex=>by rw[Fl x ox hx hex,UH cD x ox hx hex])
 have V0:(∀v k b,ev≠ .made v k b)->∀j k b,dN es j k b->(L' j↔L j):=fun cD j k b hm=>by
  rw[Ha j]
  have:j≠i:=fun e=>by
   subst e
   obtain⟨v,hm⟩:=hm
   rw[SQ] at hm;injection hm with hm
   exact cD _ _ _ hm
  simp[this]
 unfold wpOp
 have hoa:ops.toArray[i]?=some o:=by rw[List.getElem?_toArray];exact ho
 simp only[hoa]
 rw[<-DP hf,YP]
 rcases pX YL with ⟨nO,rfl⟩|⟨nO,Lp⟩
 ·rw[if_neg (by rw[nO];simp)]
  have M7:=V0 (fun _ _ _=>by simp)
  have Fp:∀j k b,dN es j k b->¬L' j->S.s.heap.get k=none:=fun j k b hm hl=>gI j k b hm (fun I0=>hl ((Ha j).2 (.inr I0)))
  cases wK:aY P o with
  |false=>exact fin S undef p (Good.refl hg.sr) (VR.q8 S) hp (JA wK) (zi.congr M7) Fp
  |true=>
   refine fin S undef (i+1) (Good.refl hg.sr) (VR.q8 S) (by omega) (UI wK) ?_ Fp
   have:G (i+1)=G p:=by rw[hG,YS wK];rfl
   rw[this]
   exact zi.congr M7
 ·rw[if_pos nO]
  refine .inl ?_
  rcases Lp with ⟨hq,v,rfl⟩|⟨hq,ha,v,s1,b,rfl,dZ,hb⟩|⟨wK,v,s1,rfl,Lp⟩
  ·
   have M7:=V0 (fun _ _ _=>by simp)
   obtain⟨t,dZ⟩:=h.same i o v p ho SQ hp (fun x ox hx hex hb=>(Fl x ox hx hex).2 (VX w6 mP i o ho he x hb)) (fun x ox hx hex hxp=>by
    cases hb:Nat.testBit (cC (bW ops []) x) i with
    |false=>rfl
    |true=>exact absurd (VX w6 mP x ox hx (mP x ox hx ((Fl x ox hx hex).1 hxp)) i hb) hn)
   have Fq:∀x∈madeOf es 0,s0.next<=x.2.1/\x.2.1<(G p).next:=fun x hx=>by
    obtain⟨j,_,hm⟩:=jC hx
    exact⟨(h.bound hm).1,VZ _ _ _ hm⟩
   have kf:=fN.fill YN.wf Fq (Nat.testBit (cC (bW ops []) i))
   have kH:zh es (G p) (fun j=>Nat.testBit (cC (bW ops []) i) j=true) (fill (Nat.testBit (cC (bW ops []) i)) (G p) (madeOf es 0)):=Aw (fun x hx=>by have:=(Fq x hx).2;have:=YN.wf.room;omega)
    (fun j k b hm _=>by have:=pW (n:=0) hm;simpa using this) (fun x hx=>by obtain⟨j,hj,hm⟩:=jC hx;rw[show x.1=j by omega];exact hm) h.uniq
   have PE:=kH.YK VZ zi (fun j hj=>VX w6 mP i o ho he j hj)
   obtain⟨t',k1,_,_⟩:=j7 PE kf.wf dZ
   rw[Fo] at k1
   obtain⟨v2,e,v',hv,gD⟩:=DG hg.sr hf hq _ k1
   injection e with e1 e2
   subst e1
   unfold Oper.wp
   rw[gD]
   have wK:aY P o=false:=by simp[aY,hq]
   exact fin S v' p (Good.refl hg.sr) hv hp (JA wK) (zi.congr M7) (fun j k b hm hl=>gI j k b hm (fun I0=>hl ((Ha j).2 (.inr I0))))
  ·
   have hm:dN es i (s0.next+aF P (ops.take i)) b:=⟨v,SQ⟩
   have YT:=gI _ _ _ hm hn
   have aP:s0.next+aF P (ops.take i)<S.s.next:=by rw[zi.next];exact VZ _ _ _ hm
   have dh:=hg.sr.room
   rw[Fo] at dZ
   obtain⟨T,v',hT,hv,M6,gD⟩:=Pw hg.sr hf ha ⟨YT,aP,Nat.le_refl _,dh,.inl aP⟩ dZ hb
   unfold Oper.wp
   rw[gD]
   have wK:aY P o=false:=by simp[aY,hq,ha]
   refine fin T v' p M6 hv hp (JA wK) ?_ ?_
   ·rw[hT]
    exact zi.put hm YT (by omega) h.uniq Ha
   ·intro j k b' R5 hl
    rw[hT]
    have fZ:j≠i:=fun e=>hl ((Ha j).2 (.inl e))
    have hk:s0.next+aF P (ops.take i)≠k:=fun e=>by
     subst e
     exact fZ (h.uniq _ _ _ _ _ R5 hm).1
    rw[aq.a8 _ _ _ _ hk]
    exact gI j k b' R5 (fun I0=>hl ((Ha j).2 (.inr I0)))
  ·
   have M7:=V0 (fun _ _ _=>by simp)
   have hGp:=YS wK
   have Fq:∀x∈madeOf (es.take i) 0,dN es x.1 x.2.1 x.2.2:=fun x hx=>by
    obtain⟨j,hj,v,hm⟩:=jC hx
    rw[show x.1=j by omega]
    refine⟨v,?_⟩
    rw[List.getElem?_take] at hm
    split at hm
    ·exact hm
    ·cases hm
   have kf:=fN.fill YN.wf (fun x hx=>⟨(h.bound (Fq x hx)).1,VZ _ _ _ (Fq x hx)⟩) (Nat.testBit (cC (bW ops []) i))
   have kH:zh es (G p) (fun j=>Nat.testBit (cC (bW ops []) i) j=true) (fill (Nat.testBit (cC (bW ops []) i)) (G p) (madeOf (es.take i) 0)):=Aw (fun x hx=>by have:=VZ _ _ _ (Fq x hx);have:=YN.wf.room;omega)
    (fun j k b hm hj=>by
     have aP:=SP w6 ho hj
     have:dN (es.take i) j k b:=by
      obtain⟨v,hm⟩:=hm
      exact⟨v,by rw[List.getElem?_take,if_pos aP];exact hm⟩
     have:=pW (n:=0) this;simpa using this) Fq h.uniq
   have PE:=kH.YK VZ zi (fun j hj=>VX w6 mP i o ho he j hj)
   have XV:=hg.sr.wf
   rw[<-hGp] at Lp
   have hG1:G (i+1)=s1:=by rw[hG];rfl
   have last:∀(T:St) (v' :Value) (t' :aq),ig t' T.s->cP s1 t' (diff (fill (Nat.testBit (cC (bW ops []) i)) (G p) (madeOf (es.take i) 0)) S.s)->bL (fill (Nat.testBit (cC (bW ops []) i)) (G p) (madeOf (es.take i) 0)) s1->bL S.s t' ->VR T v v' ->Good base S T->K (a.put o.dst v') T.w:=by
    intro T v' t' M8 k2 k3 k4 hv M6
    refine fin T v' (i+1) M6 hv (by omega) (UI wK) ?_ ?_
    ·rw[hG1]
     exact((kH.step zi k2 k3).same M8).congr M7
    ·intro j k b hm hl
     rw[M8.get k]
     exact k4.gone k (by rw[zi.next];exact VZ _ _ _ hm) (gI j k b hm (fun I0=>hl ((Ha j).2 (.inr I0))))
   rcases Lp with dZ|⟨gf,args,dZ,acr⟩
   ·obtain⟨t',k1,k2,k3⟩:=j7 PE kf.wf dZ
    obtain⟨_,_,_,k4⟩:=j7 (ig.refl _) XV k1
    rw[Fo] at k1
    obtain⟨T,v',M8,hv,M6,gD⟩:=Fi hg.sr hf _ k1
    unfold Oper.wp
    rcases gD with gD|⟨gD,rfl⟩
    ·rw[gD]
     exact last T v' t' (by rw[M8];exact ig.refl _) k2 k3 k4 hv M6
    ·rw[gD]
     exact last T undef t' (by rw[M8];exact ig.refl _) k2 k3 k4 hv M6
   ·have k1:=j7 PE kf.wf dZ
    simp only[Jw] at k1
    rw[Fo] at k1
    obtain⟨t',c1,c2,c3⟩:=hc _ _ _ _ _ _ _ PE kf.wf acr
    obtain⟨_,_,_,c4⟩:=hc _ _ _ _ _ _ _ (ig.refl _) XV c1
    obtain⟨args',Da,hex⟩:=Fi hg.sr hf _ k1
    unfold Oper.wp
    rw[hex]
    rcases dE gf base S S.s args v t' (ig.refl _) hg.sr (aA base _ _ hg.below gY) c1 args' Da with ⟨gD,Ax⟩|⟨T,v',gD,M8,hv,M6⟩
    ·rw[gD]
     refine Calls.mono Ax ?_
     rintro e w' ⟨T,v',M8,rfl,rfl,hv,M6⟩
     exact last T v' t' M8 c2 c3 c4 hv M6
    ·rw[gD]
     exact last T v' t' M8 c2 c3 c4 hv M6
end
end Go.Cl
namespace Go.Cl
open Go.RowKit
def OH (listed:Array Bool):Nat->Nat
 |0=>0
 |n+1=>OH listed n+(if listed.getD n true=true then 0 else 1)
theorem Hb {listed:Array Bool}:∀{n:Nat},OH listed n=0->∀j,j<n->listed.getD j true=true
 |0,_,j,hj=>by omega
 |n+1,h,j,hj=>by
  simp only[OH] at h
  by_cases UJ:j=n
  ·subst UJ
   by_cases hl:listed.getD j true=true
   ·exact hl
   ·rw[if_neg hl] at h;omega
  ·exact Hb (n:=n) (by omega) j (by omega)
theorem Ay {listed:Array Bool}{i:Nat}:∀{n:Nat},n<=i->OH (listed.setIfInBounds i true) n=OH listed n
 |0,_=>rfl
 |n+1,h=>by
  simp only[OH,Ay (n:=n) (by omega:n<=i),getD_set_ne true (show i≠n by omega)]
theorem Lq {listed:Array Bool}{i:Nat}(hi:i<listed.size)(hf:listed.getD i true=false):∀{n:Nat},i<n->OH (listed.setIfInBounds i true) n+1=OH listed n
 |0,h=>by omega
 |n+1,h=>by
  simp only[OH]
  by_cases zx:i=n
  ·subst zx
   rw[Ay (Nat.le_refl _),hf]
   have:(listed.setIfInBounds i true).getD i true=true:=by simp[hi]
   rw[this];simp
  ·have:=Lq hi hf (n:=n) (by omega)
   rw[getD_set_ne true zx]
   omega
theorem zh.unique {es:List Ev}{T s s' :aq}{q:Nat->Prop}(h:zh es T q s)(h' :zh es T q s'):ig s s' :=by
 refine⟨by rw[h.next,h'.next],(fun _ _ h=>by cases h),fun i=> ?_⟩
 show s'.heap.get i=s.heap.get i
 cases hT:T.heap.get i with
 |some o=>rw[h.old i o hT,h'.old i o hT]
 |none=>
  by_cases hx:∃j b,dN es j i b/\q j
  ·obtain⟨j,b,hm,hq⟩:=hx
   rw[h.new i j b hT hm hq,h'.new i j b hT hm hq]
  ·rw[h.gone i hT (fun j b hm hq=>hx ⟨j,b,hm,hq⟩),h'.gone i hT (fun j b hm hq=>hx ⟨j,b,hm,hq⟩)]
def JB (listed:Array Bool)(j:Nat):Prop:=listed.getD j false=true
section
variable {P:Program} {call:Call} {ops:List Oper} {f0:aR} {s0:aq} {es:List Ev} {F:Nat->aR} {G:Nat->aq}
theorem SS (h:jQ P call ops f0 s0 es F G)(hc:kL call)(R6:WF s0){base:Nat}{S0:St}{a0:Act}{L:Nat->Prop}{a:Act}{w:World}(hinv:Inv P base S0 a0 ops es F G L a w)(dS:∀j,j<ops.length->L j):
  ∃S,S.w=w/\Good base S0 S/\FR S (F ops.length) a/\a.defers=a0.defers/\ig (fill (fun _=>true) (G ops.length) (madeOf es 0)) S.s:=by
 obtain⟨S,g,p,rfl,hg,hf,VY,hgn,hp,Fl,zi,gI,l5⟩:=hinv
 have aP:∀x (ox:Oper),ops[x]?=some ox->x<ops.length:=fun x ox hx=>(List.getElem?_eq_some_iff.1 hx).1
 have hG:G p=G ops.length:=h.Geq hp (Nat.le_refl _) (fun x ox hx hex=>by rw[Fl x ox hx hex];exact⟨fun _=>aP x ox hx,fun hl=>dS x hl⟩)
 have hk:=h.tx hc R6 ops.length (Nat.le_refl _)
 have acp:(G 0).next=s0.next+aF P ops:=by rw[h.G0]
 have Fq:∀x∈madeOf es 0,0<16000001:=fun x hx=>by
  obtain⟨j,_,hm⟩:=jC hx
  have:=(h.bound hm).2
  have:=hk.next
  have:=hk.wf.room
  omega
 have kH:zh es (G ops.length) (fun _=>true=true) (fill (fun _=>true) (G ops.length) (madeOf es 0)):=Aw Fq (fun j k b hm _=>by have:=pW (n:=0) hm;simpa using this)
  (fun x hx=>by obtain⟨j,hj,hm⟩:=jC hx;rw[show x.1=j by omega];exact hm) h.uniq
 rw[hG] at zi
 have iT:=zi.congr (q' :=fun _=>true=true) (fun j k b hm=>⟨fun _=>by obtain⟨o,k1,_⟩:=h.made hm;exact dS j (aP j o k1),fun _=>rfl⟩)
 refine⟨S,rfl,hg,?_,VY,kH.unique iT⟩
 have hn:g.n=(F ops.length).n:=by rw[hgn,h.F0,h.Fn _ (Nat.le_refl _)]
 refine⟨by rw[<-hn];exact hf.n,by rw[<-hn];exact hf.small,fun t ht=> ?_⟩
 rw[<-l5 ops.length (Nat.le_refl _) t (fun x ox hx _=>⟨fun hl=>dS x hl,fun _=>aP x ox hx⟩)]
 exact hf.get t (by rw[hn];exact ht)
theorem V1 (h:jQ P call ops f0 s0 es F G)(w6:q6 P ops=true)(hc:kL call){Pre:Nat->World->Prop}(dE:w4 P Pre call)(R6:WF s0)(aA:Av Pre){base:Nat}{S0:St}(gY:Pre base S0.w){a0:Act}{Q:Exit->Act->World->Prop}
  (hQ:∀T a',ig (fill (fun _=>true) (G ops.length) (madeOf es 0)) T.s->Good base S0 T->FR T (F ops.length) a' ->a'.defers=a0.defers->Q .normal a' T.w):
  ∀(fuel:Nat) (listed:Array Bool) (a:Act) (w:World),listed.size=ops.length->OH listed ops.length<=fuel->gM ops (JB listed)->Inv P base S0 a0 ops es F G (JB listed) a w->wpAny P .any ops.toArray Q fuel listed a w:=by
 have ending:∀(listed:Array Bool) (a:Act) (w:World),Inv P base S0 a0 ops es F G (JB listed) a w->(∀j,j<ops.length->JB listed j)->Q .normal a w:=by
  intro listed a w hinv dS
  obtain⟨S,rfl,h1,h2,h3,h4⟩:=SS h hc R6 hinv dS
  exact hQ S a h4 h1 h2 h3
 have Lh:∀(listed:Array Bool) j,listed.size=ops.length->j<ops.length->(listed.getD j true=true↔JB listed j):=by
  intro listed j cJ hj
  have:j<listed.size:=by omega
  simp[JB,this]
 have SU:∀(listed:Array Bool),listed.size=ops.length->Region.ready .any ops.toArray listed=[]->∀j,j<ops.length->JB listed j:=by
  intro listed cJ qN j
  induction j using Nat.strongRecOn with
  |ind j ih=>
   intro hj
   by_cases hl:listed.getD j true=true
   ·exact(Lh listed j cJ hj).1 hl
   ·exfalso
    have hoj:ops[j]?=some ops[j]:=List.getElem?_eq_getElem hj
    have:j∈Region.ready .any ops.toArray listed:=mem_ready.2 ⟨by simpa using hl,ops[j],by rw[List.getElem?_toArray];exact hoj,fun e he hb=>by
     have aP:=nQ w6 hoj (by simpa using he) hb
     exact ih e.on aP (by omega)⟩
    rw[qN] at this;cases this
 intro fuel
 induction fuel with
 |zero=>
  intro listed a w cJ acs mP hinv
  have dS:∀j,j<ops.length->JB listed j:=fun j hj=>(Lh listed j cJ hj).1 (Hb (by omega) j hj)
  refine⟨?_,ending listed a w hinv dS⟩
  cases hr:Region.ready .any ops.toArray listed with
  |nil=>rfl
  |cons j r=>
   have hj:j∈Region.ready .any ops.toArray listed:=by rw[hr];exact List.mem_cons_self ..
   obtain⟨h1,o,h2,_⟩:=mem_ready.1 hj
   have aP:j<ops.length:=by rw[List.getElem?_toArray] at h2;exact(List.getElem?_eq_some_iff.1 h2).1
   have:=(Lh listed j cJ aP).2 (dS j aP)
   rw[h1] at this;cases this
 |succ fuel ih=>
  intro listed a w cJ acs mP hinv
  refine⟨fun qN=>ending listed a w hinv (SU listed cJ qN),fun i hi=> ?_⟩
  obtain⟨h1,o,h2,h3⟩:=mem_ready.1 hi
  have ho:ops[i]?=some o:=by rw[List.getElem?_toArray] at h2;exact h2
  have aP:i<ops.length:=(List.getElem?_eq_some_iff.1 ho).1
  have hn:¬JB listed i:=fun hl=>by have:=(Lh listed i cJ aP).2 hl;rw[h1] at this;cases this
  have Ha:∀j,JB (listed.setIfInBounds i true) j↔j=i\/JB listed j:=by
   intro j
   by_cases zj:i=j
   ·subst zj
    have:i<listed.size:=by omega
    simp[JB,this]
   ·unfold JB
    rw[getD_set_ne false zj]
    constructor
    ·exact fun h=> .inr h
    ·rintro (e|h)
     ·exact absurd e.symm zj
     ·exact h
  refine PD h w6 hc dE R6 aA gY mP hinv ho hn (fun e he hb=>h3 e (by simpa using he) hb) Ha (fun a' w' YU=> ?_)
  refine ih _ a' w' (by simpa using cJ) ?_ ?_ YU
  ·have:=Lq (listed:=listed) (i:=i) (by omega) h1 (n:=ops.length) aP
   omega
  ·intro y oy hy SV e he hb
   rcases(Ha y).1 SV with rfl|hl
   ·rw[ho] at hy;injection hy with hy;subst hy
    exact(Ha _).2 (.inr (h3 e (by simpa using he) hb))
   ·exact(Ha _).2 (.inr (mP y oy hy hl e he hb))
end
theorem Good.V2 {base:Nat}{S:St}(h:SR base S)(n:Nat)(hn:0<=16000000):Good base S ⟨⟨S.s.heap,S.s.next+n⟩,S.e,S.w.drew⟩:=by
 have lJ:Ext S ⟨⟨S.s.heap,S.s.next+n⟩,S.e,S.w.drew⟩:=⟨fun _ b hb=>⟨b,hb,Nat.le_refl _,Nat.le_refl _,rfl,fun _ _ _=>rfl⟩,fun _ es he=>⟨⟨es,he⟩,rfl⟩,fun _ arr _ fr hk=>⟨arr,fr,hk,rfl⟩⟩
 refine⟨⟨hn,fun i o hi=>by have:=h.bound i o hi;show i<S.s.next+n;omega,h.low,fun i b hb c hc p hp=> ?_,h.own,fun r es he=> ?_,h.EV,h.size,h.EW⟩,lJ,(Below.refl _ _).drew⟩
 ·obtain⟨v,h1,h2⟩:=h.cell i b hb c hc p hp
  exact⟨v,h1,h2.mono lJ⟩
 ·obtain⟨h1,fY,qK,h2,h3⟩:=h.map r es he
  exact⟨h1,fY,qK,h2,h3.mono lJ⟩
theorem JC {P:Program}{call:Call}(hc:kL call){Pre:Nat->World->Prop}(dE:w4 P Pre call)(aA:Av Pre)(hm:P.follows .mixedOrders=true){id:Nat}{ops:Array Oper}(w6:q6 P ops.toList=true){base:Nat}{f f' :aR}{s s' :aq}{S:St}{a:Act}
  {Q:Exit->Act->World->Prop} (hs:ig s S.s) (sr:SR base S) (gY:Pre base S.w) (hf:FR S f a) (hr:fj P call ops.toList f s=some (f',s')) (hq:∀T a',ig s' T.s->Good base S T->FR T f' a' ->a'.defers=a.defers->Q .normal a' T.w):
  (Code.region id ops true).wp P Q a S.w:=by
 have XV:=sr.wf
 obtain⟨t',zg,cI,_⟩:=Aq hc hs (hs.wf XV) hr
 obtain⟨es,F,G,tr,rfl,rfl⟩:=C9 zg
 have e:ops=ops.toList.toArray:=by simp
 rw[e]
 refine wp_region_any hm ?_
 have hg:=Good.V2 sr (aF P ops.toList) tr.room
 have hL:∀j,¬JB (Array.replicate ops.toList.toArray.size false) j:=by
  intro j hj
  simp only[JB,Array.getD_eq_getD_getElem?,Array.getElem?_replicate] at hj
  split at hj<;>simp at hj
 refine V1 tr w6 hc dE XV aA (base:=base) (S0:=S) (a0:=a) gY (fun T a' h1 h2 h3 h4=>hq T a' ?_ h2 h3 h4) _ _ a _ (by simp) ?_ (fun y o _ hl=>absurd hl (hL y)) ?_
 ·exact⟨by rw[h1.next,cI.next],(fun _ _ h=>by cases h),fun i=>by show T.s.heap.get i=s'.heap.get i;rw[h1.get i,cI.get i]⟩
 ·have:∀n m,OH (Array.replicate m false) n<=n:=by
   intro n m
   induction n with
   |zero=>exact Nat.le_refl _
   |succ n ih=>simp only[OH];split<;>omega
  have:=this ops.toList.length ops.toList.toArray.size
  simpa using this
 ·refine⟨_,f,0,rfl,hg,hf.mono hg.ext,rfl,by rw[tr.F0],Nat.zero_le _,fun x o _ _=>⟨fun h=>by omega,fun h=>absurd h (hL x)⟩,?_,?_,?_⟩
  ·rw[tr.G0]
   exact⟨rfl,fun i o h=>h,fun i j b _ _ h=>absurd h (hL j),fun i h _=>h⟩
  ·intro j i b hm _
   have hb:=(tr.bound hm).1
   show S.s.heap.get i=none
   cases PF:S.s.heap.get i with
   |none=>rfl
   |some o=>have:=XV.bound i o PF;omega
  ·intro i hi t ht
   rw[tr.Fc t 0 i (Nat.zero_le _) hi (fun x o _ hx h1 h2=>absurd ((ht x o h1 h2).1 hx) (hL x)),tr.F0]
end Go.Cl
namespace Go.Cl
open Go.RowKit
theorem M9 {P:Program}{call:Call}{Pre:Nat->World->Prop}(DR:w4 P Pre call)(aA:Av Pre)(all:List Oper)(base:Nat):∀(l:List Oper) (f:aR) (s:aq) (S:St) (f' :aR) (s' :aq) (a:Act) (Q:Exit->Act->World->Prop),
  gn P call all l f s=some (f',s')->ig s S.s->SR base S->Pre base S.w->FR S f a->(∀T a',ig s' T.s->Good base S T->FR T f' a' ->a'.defers=a.defers->Q .normal a' T.w)->wpList P all.toArray Q l a S.w:=by
 intro l
 induction l with
 |nil=>
  intro f s S f' s' a Q hr gF hs gY hf hq
  simp only[gn] at hr
  injection hr with hr;injection hr with e1 e2;subst e1;subst e2
  exact hq S a gF (Good.refl hs) hf rfl
 |cons o l ih=>
  intro f s S f' s' a Q hr gF hs gY hf hq
  simp only[gn] at hr
  unfold wpList
  rw[<-DP hf]
  split at hr
  ·rename_i hw
   rw[if_pos hw]
   refine .inl ?_
   unfold Oper.wp
   split at hr
   ·rename_i v s1 dZ
    split at hr
    ·rename_i f1 hp
     obtain⟨t1,k1,k2,_⟩:=j7 gF (gF.wf hs.wf) dZ
     obtain⟨T,v',rfl,hv,hg,gD⟩:=Fi hs hf _ k1
     have z7:=(hf.mono hg.ext).put hv hp
     have next:=ih f1 s1 T f' s' (a.put o.dst v') Q hr k2 hg.sr (aA _ _ _ hg.below gY) z7 (fun U a' e g zk hd=>hq U a' e (hg.trans g) zk (hd.trans (put_defers _ _ _)))
     rcases gD with gD|⟨gD,rfl⟩
     ·rw[gD];exact next
     ·rw[gD];exact next
    ·cases hr
   ·rename_i g args dZ
    split at hr
    ·rename_i v s1 hc
     split at hr
     ·rename_i f1 hp
      have k1:=j7 gF (gF.wf hs.wf) dZ
      simp only[Jw] at k1
      obtain⟨args',Da,he⟩:=Fi hs hf _ k1
      rw[he]
      have fin:∀(T:St) (v' :Value),ig s1 T.s->VR T v v' ->Good base S T->wpList P all.toArray Q l (a.put o.dst v') T.w:=by
       intro T v' hT hv hg
       have z7:=(hf.mono hg.ext).put hv hp
       exact ih f1 s1 T f' s' (a.put o.dst v') Q hr hT hg.sr (aA _ _ _ hg.below gY) z7 (fun U a' e g zk hd=>hq U a' e (hg.trans g) zk (hd.trans (put_defers _ _ _)))
      rcases DR g base S s args v s1 gF hs gY hc args' Da with ⟨gD,Ax⟩|⟨T,v',gD,hT,hv,hg⟩
      ·rw[gD]
       refine Calls.mono Ax ?_
       rintro e w' ⟨T,v',hT,rfl,rfl,hv,hg⟩
       exact fin T v' hT hv hg
      ·rw[gD]
       exact fin T v' hT hv hg
     ·cases hr
    ·cases hr
   ·cases hr
  ·rename_i hw
   rw[if_neg hw]
   split at hr
   ·rename_i f1 hp
    exact ih f1 s S f' s' (a.put o.dst undef) Q hr gF hs gY (hf.put (VR.q8 S) hp) (fun U a' e g zk hd=>hq U a' e g zk (hd.trans (put_defers _ _ _)))
   ·cases hr
theorem Na {P:Program}{call:Call}(hc:kL call){Pre:Nat->World->Prop}(DR:w4 P Pre call)(aA:Av Pre)(hm:P.follows .mixedOrders=true){id:Nat}{ops:Array Oper}{d:Bool}{base:Nat}{f:aR}{s:aq}{S:St}{f' :aR}{s' :aq}{a:Act}
  {Q:Exit->Act->World->Prop} (hr:(match d with
   |false=>gn P call ops.toList ops.toList f s
   |true=>fj P call ops.toList f s)=some (f',s')) (dE:codeOk P (.region id ops d)=true) (gF:ig s S.s) (hs:SR base S) (gY:Pre base S.w) (hf:FR S f a) (hq:∀T a',ig s' T.s->Good base S T->FR T f' a' ->a'.defers=a.defers->Q .normal a' T.w):
  (Code.region id ops d).wp P Q a S.w:=by
 cases d with
 |false=>
  refine wp_region_list ?_
  have:=M9 DR aA ops.toList base ops.toList f s S f' s' a Q hr gF hs gY hf hq
  simpa using this
 |true=>exact JC hc DR aA hm dE gF hs gY hf hr hq
def Fs:AX->Exit
 | .normal=> .normal
 | .exit id=> .exit id
 | .ret=> .ret
def JD (P:Program)(Pre:Nat->World->Prop)(ex:Code->aR->aq->Out):Prop:=
 ∀(c:Code) (base:Nat) (f:aR) (s:aq) (S:St) (x:AX) (f' :aR) (s' :aq) (a:Act) (Q:Exit->Act->World->Prop),codeOk P c=true->ex c f s=some (x,f',s')->ig s S.s->SR base S->Pre base S.w->FR S f a->
  (∀T a',ig s' T.s->Good base S T->FR T f' a' ->a'.defers=a.defers->Q (Fs x) a' T.w)->c.wp P Q a S.w
def PG (P:Program)(Pre:Nat->World->Prop)(ex:Code->aR->aq->Out)(n:Nat):Prop:=
 ∀(c:Code) (base:Nat) (f:aR) (s:aq) (S:St) (x:AX) (f' :aR) (s' :aq) (a:Act) (Q:Exit->Act->World->Prop),codeOk P c=true->ex (.loop c) f s=some (x,f',s')->ig s S.s->SR base S->Pre base S.w->FR S f a->
  (∀T a',ig s' T.s->Good base S T->FR T f' a' ->a'.defers=a.defers->Q (Fs x) a' T.w)->Code.rounds P c Q n a S.w
theorem Az:∀(vs:List Value) (t:Tr Value) (i j:Nat),0<=16000000->(zX t i vs).get j=if i<=j/\j<i+vs.length then some (vs.getD (j-i) undef) else t.get j:=by
 intro vs
 induction vs with
 |nil=>intro t i j _;rw[zX,if_neg (by simp)]
 |cons v r ih=>
  intro t i j h
  rw[zX,ih _ _ _ (by omega)]
  by_cases hj:i+1<=j/\j<i+1+r.length
  ·rw[if_pos hj,if_pos (by simp;omega),show j-i=(j-(i+1))+1 by omega,List.getD_cons_succ]
  ·rw[if_neg hj]
   by_cases zj:i=j
   ·subst zj
    rw[Tr.bu _ _ _ _ (deep (by omega)),if_pos (by simp),Nat.sub_self,List.getD_cons_zero]
   ·rw[Tr.ct _ _ _ _ _ zj,if_neg (by simp;omega)]
theorem FR.enter {S:St}{fn:Func}{args:List Value}{args' :Array Value}(hv:eX S args args'.toList)(tz:args.length+(fn.ntmps-args.length)<=16000000):
  FR S (mK fn args) {tmps:=args' ++Array.replicate (fn.ntmps-args'.size) undef,defers:=[]}:=by
 have hl:args.length=args'.size:=by have:=hv.1;simpa using this
 refine⟨by simp[mK,hl],tz,fun t ht=> ?_⟩
 have gq:(mK fn args).get t=if t<args.length then args.getD t undef else undef:=by
  simp only[mK,aR.get,Az args .nil 0 t (by omega),Nat.zero_le,true_and,Nat.zero_add,Nat.sub_zero]
  by_cases h:t<args.length
  ·simp only[if_pos h]
  ·simp only[if_neg h,Tr.get]
 rw[gq]
 by_cases h:t<args.length
 ·rw[if_pos h]
  have e:(args' ++Array.replicate (fn.ntmps-args'.size) undef).getD t undef=args'.toList.getD t undef:=by
   have h2:t<args'.size:=by omega
   simp[Array.getElem?_append,h2]
  rw[e]
  exact hv.2 t h
 ·rw[if_neg h]
  have e:(args' ++Array.replicate (fn.ntmps-args'.size) undef).getD t undef=undef:=by
   have h2:¬t<args'.size:=by omega
   simp[Array.getElem?_append,h2,Array.getElem?_replicate]
   by_cases h3:t-args'.size<fn.ntmps-args'.size
   ·rw[if_pos h3];rfl
   ·rw[if_neg h3];rfl
  rw[e]
  exact VR.q8 S
theorem Hc {P:Program}{base:Nat}{S:St}(hs:SR base S){f:aR}{a:Act}(hf:FR S f a):∀{rs:List ResultVar} {l:List Value},cS P f S.s rs=some l->
  ∃l',(rs.mapM fun(r:ResultVar)=>(match r with| .tmp t=>pure (a.tmps.getD t undef)| .cell x t=>do loadVar t (<-asAddr (a.tmps.getD x undef)):Sem Value)).run P S.w= .ok l' S.w/\eX S l l' :=by
 intro rs
 induction rs with
 |nil=>intro l h;simp only[cS] at h;obtain rfl:=Option.some.inj h;exact⟨[],by simp,eX.nil⟩
 |cons r rs ih=>
  intro l h
  cases r with
  |tmp t=>
   simp only[cS] at h
   split at h
   ·rename_i ht
    split at h
    ·rename_i m hm
     obtain rfl:=Option.some.inj h
     obtain⟨l',h1,h2⟩:=ih hm
     refine⟨a.tmps.getD t undef::l',?_,eX.cons (hf.get t (by simpa [Nat.blt_eq] using ht)) h2⟩
     rw[List.mapM_cons]
     simp only[Sem.run_bind,Sem.run_pure,Result.andThen_ok,h1]
    ·cases h
   ·cases h
  |cell x t=>
   simp only[cS] at h
   split at h
   ·rename_i hx
    split at h
    ·rename_i v m hv hm
     obtain rfl:=Option.some.inj h
     obtain⟨l',h1,h2⟩:=ih hm
     have hp:=hf.get x (by simpa [Nat.blt_eq] using hx)
     obtain⟨v',h3,h4⟩:=GM hs hp hv
     unfold aG at hv
     split at hv
     ·rename_i i off c YV
      rw[YV] at hp
      obtain⟨a1,e1,_⟩:=hp.pO
      rw[e1] at h3
      simp only[Instr.loadAt,Instr.sureAddr,pure_bind] at h3
      refine⟨v' ::l',?_,eX.cons h4 h2⟩
      rw[List.mapM_cons]
      have ea:asAddr (a.tmps.getD x undef)=pure a1:=by rw[e1];rfl
      simp only[ea,Sem.run_bind,Sem.run_pure,Result.andThen_ok,h3,h1]
     ·cases hv
    ·cases h
   ·cases h
def oW (P:Program)(Pre:Nat->World->Prop)(lib:ay):Prop:=∀g p,lib.at g=some p->Fm P Pre g p
theorem oW.nil (P:Program)(Pre:Nat->World->Prop):oW P Pre []:=fun _ _ h=>by cases h
theorem yp {P:Program}{Pre:Nat->World->Prop}{lib:ay}{ex:Code->aR->aq->Out}(R7:∀g fn,P.funcs[g]?=some fn->Mz P lib g fn=true)(hex:JD P Pre ex){g:FuncId}(Db:lib.at g=none)
  (base:Nat) (S:St) (s:aq) (args:List Value) (v:Value) (s' :aq) (gF:ig s S.s) (hs:SR base S) (gY:Pre base S.w) (hc:eG P lib ex g args s=some (v,s')) (args' :Array Value) (Da:eX S args args'.toList):
  (∀w,(callFunc g args').run P w= .ok (.enter g args') w)/\Calls P g args' S.w fun e w' =>∃T v',ig s' T.s/\T.w=w' /\e= .returned v' /\VR T v v' /\Good base S T:=by
 unfold eG at hc
 rw[Db] at hc
 simp only at hc
 split at hc
 case h_2=>cases hc
 rename_i fn hg
 split at hc
 case h_2=>cases hc
 rename_i c hb tz
 have hk:=R7 g fn hg
 simp only[Mz,Bool.and_eq_true,Bool.or_eq_true,Db,hb,bne_iff_ne,ne_eq] at hk
 obtain⟨Aa,YW⟩:=hk
 have V3:codeOk P c=true:=by simpa using YW
 refine⟨fun w=> ?_,?_⟩
 ·simp[callFunc,hg,Aa,hb]
 have l5:FR S (mK fn args) {tmps:=args' ++Array.replicate (fn.ntmps-args'.size) undef,defers:=[]}:=FR.enter Da (by simpa [Nat.ble_eq] using tz)
 have fin:∀(x:AX) (f:aR) (l:List Value),(x= .normal\/x= .ret)->ex c (mK fn args) s=some (x,f,s')->cS P f s' fn.results.toList=some l->v=oneOf l->
   Calls P g args' S.w fun e w' =>∃T v',ig s' T.s/\T.w=w' /\e= .returned v' /\VR T v v' /\Good base S T:=by
  intro x f l hx he hl hv
  refine calls_of_wp hg hb (hex c base _ s S x f s' _ _ V3 he gF hs gY l5 ?_)
  intro T a' M8 PH zk DS
  obtain⟨l',h1,h2⟩:=Hc PH.sr zk (rC M8 hl)
  have hlen:=h2.1
  have V4:∃v',(results fn a'.tmps).run P T.w= .ok v' T.w/\VR T v v' :=by
   have hm:(results fn a'.tmps).run P T.w= .ok (if h:l'.toArray.size=1 then l'.toArray[0] else .tuple l'.toArray) T.w:=by
    unfold results
    rw[Array.mapM_eq_mapM_toList]
    simp only[Sem.run_bind,Sem.run_map]
    refine(congrArg (fun r=>Result.andThen (Result.andThen r _) _) h1).trans ?_
    simp only[Result.andThen_ok,Sem.run_pure]
   refine⟨_,hm,?_⟩
   subst hv
   cases l with
   |nil=>rw[h2.ju];exact eX.tuple eX.nil
   |cons v0 r=>
    obtain⟨v1,r',rfl,h3,h4⟩:=h2.cons_inv
    cases r with
    |nil=>
     rw[h4.ju]
     simpa [oneOf] using h3
    |cons v2 r2=>
     obtain⟨v3,r3,rfl,h5,h6⟩:=h4.cons_inv
     have:=eX.tuple (eX.cons h3 (eX.cons h5 h6))
     simpa [oneOf] using this
  obtain⟨v',h3,h4⟩:=V4
  rcases hx with rfl|rfl
  ·exact⟨DS,v',h3,T,v',M8,rfl,rfl,h4,PH⟩
  ·exact⟨DS,v',h3,T,v',M8,rfl,rfl,h4,PH⟩
 split at hc
 ·rename_i f s1 he
  split at hc
  ·rename_i l hl
   injection hc with hc;injection hc with e1 e2;subst e1;subst e2
   exact fin .normal f l (.inl rfl) he hl rfl
  ·cases hc
 ·rename_i f s1 he
  split at hc
  ·rename_i l hl
   injection hc with hc;injection hc with e1 e2;subst e1;subst e2
   exact fin .ret f l (.inr rfl) he hl rfl
  ·cases hc
 ·cases hc
theorem SW {P:Program}{Pre:Nat->World->Prop}{lib:ay}(PI:oW P Pre lib){ex:Code->aR->aq->Out}(R7:∀g fn,P.funcs[g]?=some fn->Mz P lib g fn=true)(hex:JD P Pre ex):w4 P Pre (eG P lib ex):=by
 intro g base S s args v s' gF hs gY hc args' Da
 cases hg:lib.at g with
 |some p=>
  unfold eG at hc
  rw[hg] at hc
  exact PI g p hg base S s args v s' gF hs gY hc args' Da
 |none=>exact .inl (yp R7 hex hg base S s args v s' gF hs gY hc args' Da)
theorem SX {P:Program}{Pre:Nat->World->Prop}(aA:Av Pre){lib:ay}(SY:ln lib)(PI:oW P Pre lib)(hm:P.follows .mixedOrders=true)(R7:∀g fn,P.funcs[g]?=some fn->Mz P lib g fn=true):∀n,JD P Pre (exec P lib n)/\PG P Pre (exec P lib n) n:=by
 intro n
 induction n with
 |zero=>exact⟨fun c base f s S x f' s' a Q _ h=>(by simp[exec] at h),fun c base f s S x f' s' a Q _ h=>(by simp[exec] at h)⟩
 |succ n ih=>
  obtain⟨OI,Dc⟩:=ih
  have DR:=SW PI R7 OI
  have acu:kL (eG P lib (exec P lib n)):=rD SY (Lo SY n)
  have UL:PG P Pre (exec P lib (n+1)) (n+1):=by
   intro c base f s S x f' s' a Q dE h gF hs gY hf hq
   simp only[exec,step] at h
   rw[rounds_succ]
   split at h
   ·rename_i f1 s1 h1
    refine OI c base f s S .normal f1 s1 a _ dE h1 gF hs gY hf (fun T a' hT hg zk DS=> ?_)
    exact Dc c base f1 s1 T x f' s' a' Q dE h hT hg.sr (aA _ _ _ hg.below gY) zk (fun U a2 e g Jj Gy=>hq U a2 e (hg.trans g) Jj (Gy.trans DS))
   ·rename_i h1
    refine OI c base f s S x f' s' a _ dE h gF hs gY hf (fun T a' hT hg zk DS=> ?_)
    have cD:x≠ .normal:=fun e=>h1 _ _ (by rw[<-e];exact h)
    have:=hq T a' hT hg zk DS
    cases x with
    |normal=>exact absurd rfl cD
    |exit id=>exact this
    |ret=>exact this
  refine⟨?_,UL⟩
  intro c base f s S x f' s' a Q dE h gF hs gY hf hq
  cases c with
  |loop c=>
   refine wp_loop_rounds (n+1) (UL c base f s S x f' s' a Q (by simpa [codeOk] using dE) h gF hs gY hf hq)
  |skip=>
   simp only[exec,step] at h
   injection h with h;injection h with e1 e2;injection e2 with e2 e3;subst e1;subst e2;subst e3
   exact wp_skip (hq S a gF (Good.refl hs) hf rfl)
  |label l=>
   simp only[exec,step] at h
   injection h with h;injection h with e1 e2;injection e2 with e2 e3;subst e1;subst e2;subst e3
   exact wp_label (hq S a gF (Good.refl hs) hf rfl)
  |exit id=>
   simp only[exec,step] at h
   injection h with h;injection h with e1 e2;injection e2 with e2 e3;subst e1;subst e2;subst e3
   exact wp_exit (hq S a gF (Good.refl hs) hf rfl)
  |ret=>
   simp only[exec,step] at h
   injection h with h;injection h with e1 e2;injection e2 with e2 e3;subst e1;subst e2;subst e3
   exact wp_ret (hq S a gF (Good.refl hs) hf rfl)
  |region id ops d=>
   simp only[exec,step] at h
   split at h
   ·rename_i f1 s1 h1
    injection h with h;injection h with e1 e2;injection e2 with e2 e3;subst e1;subst e2;subst e3
    exact Na acu DR aA hm h1 dE gF hs gY hf hq
   ·cases h
  |seq p q=>
   simp only[codeOk,Bool.and_eq_true] at dE
   simp only[exec,step] at h
   refine wp_seq ?_
   split at h
   ·rename_i f1 s1 h1
    refine OI p base f s S .normal f1 s1 a _ dE.1 h1 gF hs gY hf (fun T a' hT hg zk DS=> ?_)
    exact OI q base f1 s1 T x f' s' a' Q dE.2 h hT hg.sr (aA _ _ _ hg.below gY) zk (fun U a2 e g Jj Gy=>hq U a2 e (hg.trans g) Jj (Gy.trans DS))
   ·rename_i h1
    refine OI p base f s S x f' s' a _ dE.1 h gF hs gY hf (fun T a' hT hg zk DS=> ?_)
    have cD:x≠ .normal:=fun e=>h1 _ _ (by rw[<-e];exact h)
    have:=hq T a' hT hg zk DS
    cases x with
    |normal=>exact absurd rfl cD
    |exit id=>exact this
    |ret=>exact this
  |cond y p q=>
   simp only[codeOk,Bool.and_eq_true] at dE
   simp only[exec,step] at h
   split at h
   ·rename_i t hy
    have hv:=bI hf hy
    generalize GW:a.eval y=cv at hv
    cases hv
    split at h
    ·exact wp_cond_true GW (OI p base f s S x f' s' a Q dE.1 h gF hs gY hf hq)
    ·exact wp_cond_false GW (OI q base f s S x f' s' a Q dE.2 h gF hs gY hf hq)
   ·cases h
  |block id p=>
   simp only[codeOk] at dE
   simp only[exec,step] at h
   refine wp_block ?_
   split at h
   ·rename_i j f1 s1 h1
    split at h
    ·rename_i hj
     have R2:j=id:=by simpa [Nat.beq_eq] using hj
     injection h with h;injection h with e1 e2;injection e2 with e2 e3;subst e1;subst e2;subst e3
     refine OI p base f s S (.exit j) f1 s1 a _ dE h1 gF hs gY hf (fun T a' hT hg zk DS=> ?_)
     simp only[Fs,Exit.inBlock,R2,if_true]
     exact hq T a' hT hg zk DS
    ·rename_i hj
     have R2:¬j=id:=by simpa [Nat.beq_eq] using hj
     injection h with h;injection h with e1 e2;injection e2 with e2 e3;subst e1;subst e2;subst e3
     refine OI p base f s S (.exit j) f1 s1 a _ dE h1 gF hs gY hf (fun T a' hT hg zk DS=> ?_)
     simp only[Fs,Exit.inBlock,R2,if_false]
     exact hq T a' hT hg zk DS
   ·rename_i h1
    refine OI p base f s S x f' s' a _ dE h gF hs gY hf (fun T a' hT hg zk DS=> ?_)
    have:=hq T a' hT hg zk DS
    cases x with
    |normal=>exact this
    |exit j=>exact absurd h (h1 _ _ _)
    |ret=>exact this
  |scope p=>
   simp only[codeOk] at dE
   simp only[exec,step] at h
   refine wp_scope_straight ?_
   refine OI p base f s S x f' s' a _ dE h gF hs gY hf (fun T a' hT hg zk DS=> ?_)
   have:=hq T a' hT hg zk DS
   cases x<;>exact this
  |rangeFunc y ps p q=>simp[exec,step] at h
  |goto l=>simp[exec,step] at h
  |refuse w=>simp[exec,step] at h
theorem Hd {P:Program}{lib:ay}(h:zY P lib=true):P.follows .mixedOrders=true/\∀g fn,P.funcs[g]?=some fn->Mz P lib g fn=true:=by
 simp only[zY,Bool.and_eq_true,List.all_eq_true] at h
 refine⟨h.1,fun g fn hg=> ?_⟩
 refine h.2 (fn,g) ?_
 rw[List.mem_zipIdx_iff_getElem?]
 simpa using hg
theorem Ft {P:Program}{Pre:Nat->World->Prop}(aA:Av Pre){lib:ay}(SY:ln lib)(PI:oW P Pre lib)(h:zY P lib=true)(n:Nat){g:FuncId}(hg:lib.at g=none)
  (base:Nat) (S:St) (s:aq) (args:List Value) (v:Value) (s' :aq) (gF:ig s S.s) (hs:SR base S) (gY:Pre base S.w) (hc:fx P lib n g args s=some (v,s')) (args' :Array Value) (Da:eX S args args'.toList):
  Calls P g args' S.w fun e w' =>∃T v',ig s' T.s/\T.w=w' /\e= .returned v' /\VR T v v' /\Good base S T:=by
 obtain⟨hm,R7⟩:=Hd h
 exact(yp R7 (SX aA SY PI hm R7 n).1 hg base S s args v s' gF hs gY hc args' Da).2
end Go.Cl
namespace Go.Cl
open Go.RowKit
def St.start (w:World):St:=⟨aq.empty,⟨fun _ _=>(0,0),fun _=>0⟩,w⟩
theorem SR.start (w:World):SR w.heap.size (St.start w):=by
 refine⟨by omega,?_,?_,?_,?_,?_,?_,Nat.le_refl _,?_⟩<;>intros<;>simp_all[St.start,aq.empty,aq.bK,aq.dR,Tr.get]
end Go.Cl
