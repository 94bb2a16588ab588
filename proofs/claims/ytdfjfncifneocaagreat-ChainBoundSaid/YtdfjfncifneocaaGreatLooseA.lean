/-
 The clean machine, part 22: rules for what makes memory and what writes it.
-/
import Derived.Test.YtdfjfncifneocaaGreatDraw
import Derived.Test.YtdfjfncifneocaaGreatProg
import Derived.KernelRfl
import Derived.Test.YtdfjfncifneocaaGreatMem
open Nat renaming reduceLT->QS,reduceEqDiff->WP
namespace Go.Cl
section
variable {P:Program} {lib:az} {all r:List Oper} {f:aT} {s:aq} {d:Option Tmp} {Q:aT->aq->Prop}
theorem aQ {cs:List Value}{n z:Nat}(h:cs.length=n*z)(K:∀v s',Own s' z v n cs->aH s.next v->ar s.next s s' ->dI P lib all r f s d Q (some (.val v s'))):dI P lib all r f s d Q (nO (aZ s cs n z)):=by
 obtain⟨h1,h2⟩:=Own.new (s:=s) h
 rw[h1,eV]
 exact K _ _ h2 (fun i hi=>by injection hi with hi;subst hi;exact Nat.le_refl _) (ar.new s _)
theorem bV {st xt e:TypeId}{xd:TypeDesc}{z nN:Nat}{zv:Value}(hu:P.underlying st=some (.slice e))(Xr:P.underlying xt=some xd)(Ox:(∃e2,xd= .slice e2)\/xd= .string)(b6:aW P e=some z)(rS:fe P e=some nN)(tR:bW P e=some zv)(o8:Nat.beq zv.cells.toList.length z=true)
  {x y:Value} {n m:Nat} {l new:List Value} (hx:Own s z x n l) (hy:dH s z y=some (m,new)) (lN:new.length=m*z) (vu:0<z) (dF:new.all aJ=true) (gu:(n+m)*nN<=140737488355328) (dB:n+m<=140737488355328) {base:Nat} (hF:aH base x) (hB:base<=s.next)
  (K:∀x' s',Own s' z x' (n+m) (l++new)->aH base x' ->ar base s s' ->aY x s s' ->(aE x' =aE x\/∃i,aE x' =some i/\s.next<=i)->dI P lib all r f s d Q (some (.val x' s'))):dI P lib all r f s d Q (nO (gD P s st xt x y)):=by
 obtain⟨x',s',h1,h2,h3,h4⟩:=Own.append hu Xr Ox b6 rS tR o8 hx hy lN vu dF gu dB
 rw[h1,eV]
 refine K _ _ h2 (fun i hi=> ?_) (h3.keeps hF hB) h3 h4
 rcases h4 with h4|⟨j,hj,hl⟩
 ·exact hF i (by rw[<-h4];exact hi)
 ·rw[hj] at hi;injection hi with hi;omega
theorem bI {st e:TypeId}{z nN:Nat}{zv:Value}(hu:P.underlying st=some (.slice e))(b6:aW P e=some z)(rS:fe P e=some nN)(tR:bW P e=some zv)(o8:Nat.beq zv.cells.toList.length z=true)
  {x:Value} {n m:Nat} {l new:List Value} {a b:Tmp} {ty:TypeId} {ps:String} {af:Array Edge} (hx:Own s z x n l) (Ai:f.get a=x) (Hl:b≠a) (ha:a<f.n) (hb:b<f.n) (lN:new.length=m*z) (vu:0<z) (dF:new.all aJ=true) (gu:(n+m)*nN<=140737488355328) (dB:n+m<=140737488355328) {base:Nat} (hF:aH base x) (hB:base<=s.next)
  (K:∀bs x' s',Own s' z x' (n+m) (l++new)->aH base x' ->ar base s s' ->aY x s s' ->(aE x' =aE x\/∃i,aE x' =some i/\s.next<=i)->dI P lib all r (f.put b bs) s' d Q (some (.val x' s'))):
  dI P lib all (⟨d,.call ⟨.builtin .append, #[.tmp a,.tmp b], #[st,st]⟩,ty,ps,af,none⟩::r) f s (some b) Q (nO (aZ s new m z)):=by
 refine aQ lN fun bs s1 h1 h2 h3=> ?_
 have lM:=hx.keeps h3
 obtain⟨x',s',g1,g2,g3,g4⟩:=Own.append hu hu (.inl ⟨e,rfl⟩) b6 rS tR o8 lM h1.aG.src lN vu dF gu dB
 have g4' :aE x' =aE x\/∃i,aE x' =some i/\s.next<=i:=g4.imp id (fun⟨i,a,b⟩=>⟨i,a,Nat.le_trans h3.next b⟩)
 have g3' :aY x s s' :=⟨Nat.le_trans h3.next g3.next,fun i hi ck=>(g3.get i (Nat.lt_of_lt_of_le hi h3.next) ck).trans (h3.get i hi)⟩
 have HO:aH base x' :=fun i hi=>by
  rcases g4' with h4|⟨j,hj,hl⟩
  ·exact hF i (by rw[<-h4];exact hi)
  ·rw[hj] at hi;injection hi with hi;omega
 have k:=K bs x' s' g2 HO (g3'.keeps hF hB) g3' g4'
 have e1:ad (f.put b bs) [.tmp a,.tmp b]=some [x,bs]:=by
  simp only[ad,xW,ag,ha,hb,if_true,aa,Ai,if_neg Hl]
 have e2:cM P ⟨d,.call ⟨.builtin .append, #[.tmp a,.tmp b], #[st,st]⟩,ty,ps,af,none⟩ (f.put b bs) s1=some (.val x' s'):=by
  rw[ir,e1]
  simp only[builtin_append,g1,eV]
 rw[xU,if_pos hb,ti,sm,uE,e2]
 exact k
theorem g9 {t e:TypeId}{k:IntKind}{a:Int}(hu:P.underlying t=some (.slice e))(b6:aW P e=some 1)(hz:bW P e=some (.int k 0)):aL P s t 1 [(0,.int k a)]=aZ s [.int k a] 1 1:=by
 unfold aL;rw[hu];simp only[b6,hz];rfl
theorem Xt {t e:TypeId}{zv v:Value}(hu:P.underlying t=some (.slice e))(b6:aW P e=some 1)(hz:bW P e=some zv)(oY:bP zv=true)(o8:∃w,zv.cells.toList=[w])(hv:v.cells.toList=[v]):aL P s t 1 [(0,v)]=aZ s [v] 1 1:=by
 obtain⟨w,hw⟩:=o8
 unfold aL;rw[hu];simp only[b6,hz,oY,hw,bw,fI,hv,List.length_singleton];rfl
theorem Xu {t e:TypeId}{zv v u:Value}(hu:P.underlying t=some (.slice e))(b6:aW P e=some 1)(hz:bW P e=some zv)(oY:bP zv=true)(o8:∃w,zv.cells.toList=[w])(hv:v.cells.toList=[v])(II:u.cells.toList=[u]):aL P s t 2 [(0,v),(1,u)]=aZ s [v,u] 2 1:=by
 obtain⟨w,hw⟩:=o8
 unfold aL;rw[hu];simp only[b6,hz,oY,hw,bw,fI,hv,II,List.length_singleton];rfl
theorem HP {t e:TypeId}{k:IntKind}{a b:Int}(hu:P.underlying t=some (.slice e))(b6:aW P e=some 1)(hz:bW P e=some (.int k 0)):aL P s t 2 [(0,.int k a),(1,.int k b)]=aZ s [.int k a,.int k b] 2 1:=by
 unfold aL;rw[hu];simp only[b6,hz];rfl
theorem Ms {t e:TypeId}{k:IntKind}{a b c d:Int}(hu:P.underlying t=some (.slice e))(b6:aW P e=some 1)(hz:bW P e=some (.int k 0)):aL P s t 4 [(0,.int k a),(1,.int k b),(2,.int k c),(3,.int k d)]=aZ s [.int k a,.int k b,.int k c,.int k d] 4 1:=by
 unfold aL;rw[hu];simp only[b6,hz];rfl
theorem TP {t e:TypeId}{k:IntKind}{a b c d g:Int}(hu:P.underlying t=some (.slice e))(b6:aW P e=some 1)(hz:bW P e=some (.int k 0)):aL P s t 5 [(0,.int k a),(1,.int k b),(2,.int k c),(3,.int k d),(4,.int k g)]=aZ s [.int k a,.int k b,.int k c,.int k d,.int k g] 5 1:=by
 unfold aL;rw[hu];simp only[b6,hz];rfl
end
structure av (s:aq) (i:Nat) (cs:List Value):Prop where
 lt:i<s.next
 dK:∃low z,s.bA i=some ⟨cs,low,true,z⟩/\low<=cs.length+1
theorem av.keeps {s s' :aq}{i:Nat}{cs:List Value}(h:av s i cs)(k:ar s.next s s'):av s' i cs:=
 ⟨Nat.lt_of_lt_of_le h.lt k.next,by obtain⟨low,z,h1,h2⟩:=h.dK;exact⟨low,z,(k.dK h.lt).trans h1,h2⟩⟩
theorem av.turns {s s' :aq}{i:Nat}{cs:List Value}{v:Value}(h:av s i cs)(k:aY v s s')(ck:aE v≠some i):av s' i cs:=
 ⟨Nat.lt_of_lt_of_le h.lt k.next,by
  obtain⟨low,z,h1,h2⟩:=h.dK
  refine⟨low,z,?_,h2⟩
  simp only[aq.bA,k.get i h.lt ck];exact h1⟩
theorem av.load {P:Program}{e:TypeId}(nK:bY P e=some false){s:aq}{i:Nat}{cs:List Value}(h:av s i cs){off c:Nat}(hc:c=cs.length+1)(ho:off<cs.length):aR P s e (.pointer (some ⟨i,off,some c⟩))=some (cs.getD off undef):=by
 obtain⟨low,z,h1,h2⟩:=h.dK
 subst hc
 unfold aR
 simp only[nK]
 rw[gi h1 h2 (Nat.le_refl _) (by omega)]
 have:(cs.drop off).take 1=[cs.getD off undef]:=by
  rw[List.take_one,List.head?_drop,List.getElem?_eq_getElem (by omega)]
  simp[List.getD,List.getElem?_eq_getElem (show off<cs.length by omega)]
 simp only[this]
theorem av.bu {P:Program}{e:TypeId}(nK:bY P e=some true){s:aq}{i:Nat}{cs:List Value}(b6:aW P e=some cs.length)(h:av s i cs){c:Nat}(hc:c=cs.length+1):aR P s e (.pointer (some ⟨i,0,some c⟩))=some (.agg cs.toArray):=by
 obtain⟨low,z,h1,h2⟩:=h.dK
 subst hc
 unfold aR
 simp only[nK,b6]
 rw[gi h1 h2 (Nat.le_refl _) (by omega)]
 simp
theorem j7:∀(l:List Value) (off:Nat) (vs:List Value),off+vs.length<=l.length->setAt l off vs=some (l.take off++vs++l.drop (off+vs.length)):=by
 intro l
 induction l with
 |nil=>intro off vs h;cases vs with
  |nil=>simp at h;subst h;simp[setAt]
  |cons v r=>simp at h
 |cons c r ih=>
  intro off vs h
  cases off with
  |zero=>
   cases vs with
   |nil=>simp[setAt]
   |cons v vs=>
    simp only[setAt]
    rw[ih 0 vs (by simpa using h)]
    simp
  |succ n=>
   cases vs with
   |nil=>simp[setAt]
   |cons v vs=>
    simp only[setAt]
    rw[ih n (v::vs) (by simp at h|-;omega)]
    simp only[List.length_cons,List.take_succ_cons,List.cons_append,show n+1+(vs.length+1)=(n+(vs.length+1))+1 by omega,List.drop_succ_cons]
theorem av.store {P:Program}{e:TypeId}(b6:aW P e=some 1){s:aq}{i:Nat}{cs:List Value}(h:av s i cs){off c:Nat}(hc:c=cs.length+1)(ho:off<cs.length){v:Value}(hv:aJ v=true):
  ∃s',dE P s e (.pointer (some ⟨i,off,some c⟩)) v=some s' /\av s' i (cs.set off v)/\(s'.next=s.next/\∀j,j≠i->s'.heap.get j=s.heap.get j):=by
 obtain⟨low,z,h1,h2⟩:=h.dK
 subst hc
 have lO:v.cells.toList=[v]:=by cases v<;>first|rfl|cases hv
 refine⟨s.put i (.dK ⟨cs.set off v,cs.length+1,true,z⟩),?_,⟨h.lt,cs.length+1,z,?_,by simp⟩,rfl,fun j hj=>aq.bD _ _ _ _ (Ne.symm hj)⟩
 ·unfold dE
  simp only[b6,lO,List.length_singleton]
  unfold aq.storeAt
  have yc:setAt cs off [v]=some (cs.set off v):=by
   rw[j7 _ _ _ (by simp;omega)]
   rw[List.set_eq_take_append_cons_drop,if_pos ho]
   simp
  have gX:(true&&Nat.ble low (cs.length+1)&&Nat.beq (cs.length+1) (cs.length+1)&&[v].all aJ)=true:=by
   simp[h2,hv]
  simp only[h1,gX,if_true,yc]
  rfl
 ·exact aq.b9 _ _ _ (by omega)
section
variable {P:Program} {lib:az} {all r:List Oper} {f:aT} {s:aq} {d:Option Tmp} {Q:aT->aq->Prop}
theorem aX {e:TypeId}(b6:aW P e=some 1){i:Nat}{cs:List Value}(h:av s i cs){off c:Nat}(hc:c=cs.length+1)(ho:off<cs.length){v:Value}(hv:aJ v=true)
  (K:∀s',av s' i (cs.set off v)->s'.next=s.next->(∀j,j≠i->s'.heap.get j=s.heap.get j)->dI P lib all r f s d Q (some (.val undef s'))):dI P lib all r f s d Q (AY (dE P s e (.pointer (some ⟨i,off,some c⟩)) v)):=by
 obtain⟨s',h1,h2,h3,h4⟩:=h.store b6 hc ho hv
 rw[h1,g7]
 exact K s' h2 h3 h4
theorem ax {cs:List Value}{z:Nat}(K:∀s',av s' s.next cs->ar s.next s s' ->s'.next=s.next+1->dI P lib all r f s d Q (some (.val (.pointer (some ⟨s.next,0,some (cs.length+1)⟩)) s'))):dI P lib all r f s d Q (nO (eR s cs z)):=by
 have:eR s cs z=some (.pointer (some ⟨s.next,0,some (cs.length+1)⟩),s.new (.dK ⟨cs,1,true,z⟩)):=by simp[eR,aq.room]
 rw[this,eV]
 exact K _ ⟨by rw[we];omega,1,z,nU _ _,by omega⟩ (ar.new _ _) rfl
end
theorem aY.aI {s s' :aq}{i o:Nat}{c:Option Nat}(h1:s'.next=s.next)(h2:∀j,j≠i->s'.heap.get j=s.heap.get j):aY (.pointer (some ⟨i,o,c⟩)) s s' :=
 ⟨by omega,fun j _ hj=>h2 j (fun e=>hj (by rw[e];rfl))⟩
theorem ar.aI {s s' :aq}{i base:Nat}(h1:s'.next=s.next)(h2:∀j,j≠i->s'.heap.get j=s.heap.get j)(hb:base<=i):ar base s s' :=
 ⟨by omega,fun j hj=>h2 j (by omega)⟩
theorem Own.aI {s s' :aq}{i:Nat}(h1:s'.next=s.next)(h2:∀j,j≠i->s'.heap.get j=s.heap.get j){z:Nat}{v:Value}{n:Nat}{l:List Value}(h:Own s z v n l)(ck:aE v≠some i):Own s' z v n l:=
 h.turns (aY.aI (o:=0) (c:=none) h1 h2) (fun j hj e=>ck (by rw[hj];injection e with e;rw[<-e]))
theorem aN.aI {s s' :aq}{i:Nat}(h1:s'.next=s.next)(h2:∀j,j≠i->s'.heap.get j=s.heap.get j){z:Nat}{v:Value}{n:Nat}{l:List Value}(h:aN s z v n l)(ck:aE v≠some i):aN s' z v n l:=by
 cases h with
 |nil=>exact .nil
 |bare=>exact .bare _ _
 |of j off n c b l hi hb hz hl hc hlen eZ ht=>
  refine .of j off n c b l (by omega) ?_ hz hl hc hlen eZ ht
  simp only[aq.bA,h2 j (fun e=>ck (by rw[e];rfl))];exact hb
theorem Own.put {P:Program}{e:TypeId}(b6:aW P e=some 1){s:aq}{v:Value}{n:Nat}{l:List Value}(h:Own s 1 v n l){k:Nat}(hk:k<n){w:Value}(hw:aJ w=true):
  ∃s',dE P s e (bJ 1 v k) w=some s' /\Own s' 1 v n (l.set k w)/\aY v s s' :=by
 cases h with
 |nil=>omega
 |of i n low l hi hb hl hlen=>
  have ef:l.length=n:=by omega
  have SJ:av s i l:=⟨hi,low,1,hb,hl⟩
  obtain⟨s',h1,h2,h3,h4⟩:=SJ.store b6 (off:=k) (c:=l.length+1) rfl (by omega) hw
  have oT:s'.bA i=some ⟨l.set k w,l.length+1,true,1⟩:=by
   have lO:w.cells.toList=[w]:=by cases w<;>first|rfl|cases hw
   unfold dE at h1
   simp only[b6,lO,List.length_singleton] at h1
   unfold aq.storeAt at h1
   have yc:setAt l k [w]=some (l.set k w):=by
    rw[j7 _ _ _ (by simp;omega)]
    rw[List.set_eq_take_append_cons_drop,if_pos (by omega)]
    simp
   have gX:(true&&Nat.ble low (l.length+1)&&Nat.beq (l.length+1) (l.length+1)&&[w].all aJ)=true:=by
    simp[hl,hw]
   simp only[hb,gX,if_true,yc] at h1
   have Xh:some (s.put i (.dK ⟨l.set k w,l.length+1,true,1⟩))=some s' :=h1
   injection Xh with Xh
   rw[<-Xh];exact aq.b9 _ _ _ (by omega)
  refine⟨s',?_,?_,⟨by omega,fun j _ hj=>h4 j (fun e=>hj (by rw[e];rfl))⟩⟩
  ·simpa [bJ] using h1
  ·have:=Own.of (z:=1) i n (l.length+1) (l.set k w) h2.lt oT (by simp) (by simp[hlen])
   simpa using this
theorem qR {P:Program}{lib:az}{all r:List Oper}{f:aT}{s:aq}{d:Option Tmp}{Q:aT->aq->Prop}{e:TypeId}(b6:aW P e=some 1){v:Value}{n:Nat}{l:List Value}(h:Own s 1 v n l){k:Nat}(hk:k<n){w:Value}(hw:aJ w=true)
  (K:∀s',Own s' 1 v n (l.set k w)->aY v s s' ->dI P lib all r f s d Q (some (.val undef s'))):dI P lib all r f s d Q (AY (dE P s e (bJ 1 v k) w)):=by
 obtain⟨s',h1,h2,h3⟩:=h.put b6 hk hw
 rw[h1,g7]
 exact K s' h2 h3
section
variable {P:Program} {lib:az} {all r:List Oper} {id:Nat} {f:aT} {T:aq} {d:Option Tmp} {Q:aT->aq->Prop}
theorem TQ (v:Value)(b:jE):Cp P lib all r id f T d Q (some (v,b))=sy P lib all r (id+1) f d Q v (T.put id (.dK b)):=rfl
theorem hI {cs:List Value}{n z base:Nat}(h:cs.length=n*z)(gn:id<T.next)(hb:base<=id)
  (K:∀v T',Own T' z v n cs->aE v=some id->ar base T T' ->T'.next=T.next->(∀j,j≠id->T'.heap.get j=T.heap.get j)->sy P lib all r (id+1) f d Q v T'):Cp P lib all r id f T d Q (ff id (nO (aZ ⟨.nil,id⟩ cs n z))):=by
 have e:ff id (nO (aZ ⟨.nil,id⟩ cs n z))=some (.slice (some ⟨id,0,none⟩) n (cs.length+1),⟨cs,1,true,z⟩):=by
  have:aZ ⟨.nil,id⟩ cs n z=some (.slice (some ⟨id,0,none⟩) n (cs.length+1),(⟨.nil,id⟩:aq).new (.dK ⟨cs,1,true,z⟩)):=by simp[aZ,aq.room]
  rw[this,eV]
  have hb:((⟨.nil,id⟩:aq).new (.dK ⟨cs,1,true,z⟩)).bA id=some ⟨cs,1,true,z⟩:=nU ⟨.nil,id⟩ _
  simp only[ff,hb]
 rw[e,TQ]
 have LZ:∀j,j≠id->(T.put id (.dK ⟨cs,1,true,z⟩)).heap.get j=T.heap.get j:=fun j hj=>aq.bD _ _ _ _ (Ne.symm hj)
 refine K _ _ (.of id n 1 cs (by simpa [aq.put] using gn) (aq.b9 _ _ _ (by omega)) (by omega) h) rfl ⟨Nat.le_refl _,fun j hj=>LZ j (by omega)⟩ rfl LZ
theorem j8 {st xt e:TypeId}{xd:TypeDesc}{z nN:Nat}{zv:Value}(hu:P.underlying st=some (.slice e))(Xr:P.underlying xt=some xd)(Ox:(∃e2,xd= .slice e2)\/xd= .string)(b6:aW P e=some z)(rS:fe P e=some nN)(tR:bW P e=some zv)(o8:Nat.beq zv.cells.toList.length z=true)
  {x y:Value} {n m:Nat} {l new:List Value} (hx:Own T z x n l) (hy:dH T z y=some (m,new)) (lN:new.length=m*z) (vu:0<z) (dF:new.all aJ=true) (gu:(n+m)*nN<=140737488355328) (dB:n+m<=140737488355328) {base:Nat} (hF:aH base x) (hB:base<=T.next)
  (K:∀x' T',Own T' z x' (n+m) (l++new)->aH base x' ->ar base T T' ->aY x T T' ->(aE x' =aE x\/∃i,aE x' =some i/\T.next<=i)->sy P lib all r id f d Q x' T'):pn P lib all r id f d T Q (nO (gD P T st xt x y)):=by
 obtain⟨x',s',h1,h2,h3,h4⟩:=Own.append hu Xr Ox b6 rS tR o8 hx hy lN vu dF gu dB
 rw[h1,eV]
 refine K _ _ h2 (fun i hi=> ?_) (h3.keeps hF hB) h3 h4
 rcases h4 with h4|⟨j,hj,hl⟩
 ·exact hF i (by rw[<-h4];exact hi)
 ·rw[hj] at hi;injection hi with hi;omega
end
def oM (v:Value):Value:=
 match v with
 | .slice (some ⟨i,off,none⟩) _ c=> .pointer (some ⟨i,off,some c⟩)
 |_=> .pointer none
theorem wk {P:Program}{lib:az}{all r:List Oper}{f:aT}{s:aq}{d:Option Tmp}{Q:aT->aq->Prop}{cs:List Value}{n:Nat}(h:cs.length=n)(K:∀v s',Own s' 1 v n cs->aH s.next v->ar s.next s s' ->dI P lib all r f s d Q (some (.val (oM v) s'))):dI P lib all r f s d Q (nO (eR s cs 1)):=by
 obtain⟨h1,h2⟩:=Own.new (s:=s) (cs:=cs) (n:=n) (z:=1) (by omega)
 have:eR s cs 1=some (.pointer (some ⟨s.next,0,some (cs.length+1)⟩),s.new (.dK ⟨cs,1,true,1⟩)):=by simp[eR,aq.room]
 rw[this,eV]
 exact K _ _ h2 (fun i hi=>by injection hi with hi;subst hi;exact Nat.le_refl _) (ar.new s _)
theorem Own.Jz {P:Program}{t e:TypeId}{m:Nat}(hu:P.underlying t=some (.array m e))(b6:aW P e=some 1){s:aq}{v:Value}{l:List Value}(h:Own s 1 v m l){k:IntKind}{x:Int}(h0:0<=x)(hx:x<m):
  bQ P t (oM v) (.int k x)=some (bJ 1 v x.toNat):=by
 obtain⟨y,rfl⟩:∃y:Nat,x=y:=⟨x.toNat,by omega⟩
 have hy:y<m:=by omega
 have dB:Nat.blt y m=true:=by simpa [Nat.blt_eq] using hy
 show bQ P t (oM v) (.int k (Int.ofNat y))=_
 cases h with
 |nil=>omega
 |of i n low l hi hb hl hlen=>
  unfold bQ;rw[hu]
  simp only[oM,b6,dB,if_true,bJ,Int.toNat_natCast]
theorem Own.JA {P:Program}{t e:TypeId}{m:Nat}(hu:P.underlying t=some (.array m e))(b6:aW P e=some 1){s:aq}{v:Value}{l:List Value}(hm:0<m)(h:Own s 1 v m l){k:IntKind}{y:Int}(h0:0<=y)(hy:y<=m):
  du P s t (oM v) none (some (.int k y)) none=some (eB 1 v 0 y.toNat):=by
 cases h with
 |nil=>omega
 |of i n low l hi hb hl hlen=>
  have e1:gU (some (.int k y)) m=some y.toNat:=pk h0
  have hc:(Nat.ble 0 y.toNat&&Nat.ble y.toNat m&&Nat.ble low (l.length+1)&&Nat.ble (l.length+1) (l.length+1)&&Nat.blt (0+m*1) (l.length+1)&&Nat.beq 1 1&&Nat.blt 0 1)=true:=by
   simp only[Bool.and_eq_true,Nat.ble_eq,Nat.blt_eq,Nat.beq_eq]
   have h1:y.toNat<=m:=by omega
   have h2:m=l.length:=by omega
   exact⟨⟨⟨⟨⟨⟨Nat.zero_le _,h1⟩,hl⟩,Nat.le_refl _⟩,by omega⟩,by trivial⟩,by omega⟩
  unfold du;rw[hu]
  simp only[oM,gj,e1,b6,hb,hc,if_true,eB]
theorem aj:type_of%
 (And.intro (And.intro (And.intro (And.intro (And.intro (And.intro (And.intro @BL @vQ) (And.intro @BM (And.intro @BN
 @Fk))) (And.intro (And.intro @vR (And.intro @Fm @BO)) (And.intro @uG (And.intro @BP @Jp)))) (And.intro
 (And.intro (And.intro @Fo (And.intro @y6 @y7)) (And.intro @Jq (And.intro @Fp @BQ))) (And.intro (And.intro
 @BR (And.intro @y8 @Fq)) (And.intro @BG (And.intro @ti @uE))))) (And.intro (And.intro (And.intro (And.intro
 @eg @xU) (And.intro @se (And.intro @BH @BI))) (And.intro (And.intro @BJ (And.intro @uF @sf))
 (And.intro @BK (And.intro @pg @pd)))) (And.intro (And.intro (And.intro @pf (And.intro @Fh @x7))
 (And.intro @uJ (And.intro @FH @pr))) (And.intro (And.intro @pt (And.intro @FJ @FK)) (And.intro
 @sA (And.intro @Cq @Cr)))))) (And.intro (And.intro (And.intro (And.intro (And.intro @Cs @B8) (And.intro
 @ph (And.intro @zg @zh))) (And.intro (And.intro @Fz (And.intro @zi @qN)) (And.intro @vX
 (And.intro @B9 @FA)))) (And.intro (And.intro (And.intro @FC (And.intro @pj @zj)) (And.intro @FD (And.intro
 @zk @qO))) (And.intro (And.intro @Ca (And.intro @ua @Cb)) (And.intro @vY (And.intro @Cc
 @Cd))))) (And.intro (And.intro (And.intro (And.intro @sq (And.intro @zl @Ce)) (And.intro @qP (And.intro
 @zm @qQ))) (And.intro (And.intro @zn (And.intro @zo @ub)) (And.intro @Bool.false_and (And.intro
 @Bool.and_false @BS)))) (And.intro (And.intro (And.intro @y9 (And.intro @Fs @vZ)) (And.intro @v8 (And.intro @Js
 @BZ))) (And.intro (And.intro @B0 (And.intro @Fu @OK)) (And.intro @xX (And.intro @si @B1))))))) (And.intro
 (And.intro (And.intro (And.intro (And.intro (And.intro @Fv @qg) (And.intro @xY (And.intro @B2 @sj))) (And.intro (And.intro
 @za (And.intro @tW @xZ)) (And.intro @oI (And.intro @x4 @oJ)))) (And.intro (And.intro (And.intro
 @x5 (And.intro @B3 @tX)) (And.intro @sk (And.intro @sl @ir))) (And.intro (And.intro @sm
 (And.intro @zb @Fw)) (And.intro @vT (And.intro @aa @ag))))) (And.intro (And.intro (And.intro (And.intro @xW @BT)
 (And.intro @Ft (And.intro @vS @BU))) (And.intro (And.intro @BV (And.intro @BW @BX)) (And.intro @bO
 (And.intro @vU @eV)))) (And.intro (And.intro (And.intro @g7 (And.intro @builtin_len @builtin_append)) (And.intro @builtin_copy (And.intro
 @builtin_min @builtin_max))) (And.intro (And.intro @OL (And.intro @OM @ON)) (And.intro @HF (And.intro @ei @OP)))))) (And.intro
 (And.intro (And.intro (And.intro (And.intro @OQ @OR) (And.intro @OS (And.intro @TG @TH))) (And.intro (And.intro @Cf (And.intro
 @cR @mz)) (And.intro @lg (And.intro @nT @dr)))) (And.intro (And.intro (And.intro @Cg (And.intro
 @vV @tY)) (And.intro @B4 (And.intro @vW @B5))) (And.intro (And.intro @B6 (And.intro @zc
 @B7)) (And.intro @qL (And.intro @zd @Fy))))) (And.intro (And.intro (And.intro (And.intro @qM (And.intro
 @ze @zf)) (And.intro @sn (And.intro @tZ @uc))) (And.intro (And.intro @gj (And.intro @Nat.zero_add
 @true_and)) (And.intro @and_true (And.intro @and_self @Bool.and_true)))) (And.intro (And.intro (And.intro @Bool.true_and (And.intro @decide_true @decide_false))
 (And.intro @Bool.false_eq_true (And.intro @beq_true @beq_false))) (And.intro (And.intro @Bool.not_true (And.intro @Bool.not_false @Int.toNat_natCast)) (And.intro
 @Int.ofNat_lt (And.intro @Int.ofNat_le @Int.natCast_inj)))))))):=
 (And.intro (And.intro (And.intro (And.intro (And.intro (And.intro (And.intro @BL @vQ) (And.intro @BM (And.intro @BN
 @Fk))) (And.intro (And.intro @vR (And.intro @Fm @BO)) (And.intro @uG (And.intro @BP @Jp)))) (And.intro
 (And.intro (And.intro @Fo (And.intro @y6 @y7)) (And.intro @Jq (And.intro @Fp @BQ))) (And.intro (And.intro
 @BR (And.intro @y8 @Fq)) (And.intro @BG (And.intro @ti @uE))))) (And.intro (And.intro (And.intro (And.intro
 @eg @xU) (And.intro @se (And.intro @BH @BI))) (And.intro (And.intro @BJ (And.intro @uF @sf))
 (And.intro @BK (And.intro @pg @pd)))) (And.intro (And.intro (And.intro @pf (And.intro @Fh @x7))
 (And.intro @uJ (And.intro @FH @pr))) (And.intro (And.intro @pt (And.intro @FJ @FK)) (And.intro
 @sA (And.intro @Cq @Cr)))))) (And.intro (And.intro (And.intro (And.intro (And.intro @Cs @B8) (And.intro
 @ph (And.intro @zg @zh))) (And.intro (And.intro @Fz (And.intro @zi @qN)) (And.intro @vX
 (And.intro @B9 @FA)))) (And.intro (And.intro (And.intro @FC (And.intro @pj @zj)) (And.intro @FD (And.intro
 @zk @qO))) (And.intro (And.intro @Ca (And.intro @ua @Cb)) (And.intro @vY (And.intro @Cc
 @Cd))))) (And.intro (And.intro (And.intro (And.intro @sq (And.intro @zl @Ce)) (And.intro @qP (And.intro
 @zm @qQ))) (And.intro (And.intro @zn (And.intro @zo @ub)) (And.intro @Bool.false_and (And.intro
 @Bool.and_false @BS)))) (And.intro (And.intro (And.intro @y9 (And.intro @Fs @vZ)) (And.intro @v8 (And.intro @Js
 @BZ))) (And.intro (And.intro @B0 (And.intro @Fu @OK)) (And.intro @xX (And.intro @si @B1))))))) (And.intro
 (And.intro (And.intro (And.intro (And.intro (And.intro @Fv @qg) (And.intro @xY (And.intro @B2 @sj))) (And.intro (And.intro
 @za (And.intro @tW @xZ)) (And.intro @oI (And.intro @x4 @oJ)))) (And.intro (And.intro (And.intro
 @x5 (And.intro @B3 @tX)) (And.intro @sk (And.intro @sl @ir))) (And.intro (And.intro @sm
 (And.intro @zb @Fw)) (And.intro @vT (And.intro @aa @ag))))) (And.intro (And.intro (And.intro (And.intro @xW @BT)
 (And.intro @Ft (And.intro @vS @BU))) (And.intro (And.intro @BV (And.intro @BW @BX)) (And.intro @bO
 (And.intro @vU @eV)))) (And.intro (And.intro (And.intro @g7 (And.intro @builtin_len @builtin_append)) (And.intro @builtin_copy (And.intro
 @builtin_min @builtin_max))) (And.intro (And.intro @OL (And.intro @OM @ON)) (And.intro @HF (And.intro @ei @OP)))))) (And.intro
 (And.intro (And.intro (And.intro (And.intro @OQ @OR) (And.intro @OS (And.intro @TG @TH))) (And.intro (And.intro @Cf (And.intro
 @cR @mz)) (And.intro @lg (And.intro @nT @dr)))) (And.intro (And.intro (And.intro @Cg (And.intro
 @vV @tY)) (And.intro @B4 (And.intro @vW @B5))) (And.intro (And.intro @B6 (And.intro @zc
 @B7)) (And.intro @qL (And.intro @zd @Fy))))) (And.intro (And.intro (And.intro (And.intro @qM (And.intro
 @ze @zf)) (And.intro @sn (And.intro @tZ @uc))) (And.intro (And.intro @gj (And.intro @Nat.zero_add
 @true_and)) (And.intro @and_true (And.intro @and_self @Bool.and_true)))) (And.intro (And.intro (And.intro @Bool.true_and (And.intro @decide_true @decide_false))
 (And.intro @Bool.false_eq_true (And.intro @beq_true @beq_false))) (And.intro (And.intro @Bool.not_true (And.intro @Bool.not_false @Int.toNat_natCast)) (And.intro
 @Int.ofNat_lt (And.intro @Int.ofNat_le @Int.natCast_inj))))))))
theorem ak:type_of%(And.intro @cond_true.{1} (And.intro @cond_false.{1} (And.intro @List.drop_zero.{0} (And.intro @List.drop_succ_cons.{0} (And.intro @List.cons_append.{0} (And.intro @List.nil_append.{0} (And.intro @List.getD_cons_zero.{0} (And.intro @List.getD_cons_succ.{0} (And.intro @List.set_cons_zero.{0} (And.intro @List.set_cons_succ.{0} (And.intro @if_true.{1} (And.intro @if_false.{1} (And.intro @beq_self_eq_true.{0} (And.intro @ne_eq.{1} (And.intro @eq_self.{1} (And.intro @not_true_eq_false @not_false_eq_true)))))))))))))))):=(And.intro @cond_true.{1} (And.intro @cond_false.{1} (And.intro @List.drop_zero.{0} (And.intro @List.drop_succ_cons.{0} (And.intro @List.cons_append.{0} (And.intro @List.nil_append.{0} (And.intro @List.getD_cons_zero.{0} (And.intro @List.getD_cons_succ.{0} (And.intro @List.set_cons_zero.{0} (And.intro @List.set_cons_succ.{0} (And.intro @if_true.{1} (And.intro @if_false.{1} (And.intro @beq_self_eq_true.{0} (And.intro @ne_eq.{1} (And.intro @eq_self.{1} (And.intro @not_true_eq_false @not_false_eq_true))))))))))))))))
end Go.Cl
set_option linter.unusedSimpArgs false
set_option linter.unusedVariables false
set_option maxRecDepth 100000
namespace Go.Proofs.YtdfjfncifneocaaGreat
open Go.Cl
theorem bL:aW Tryz.prog 5=some 1:=by kernel_rfl
theorem kG:fe Tryz.prog 5=some 1:=by kernel_rfl
theorem mB:bY Tryz.prog 5=some false:=by kernel_rfl
theorem lh:bW Tryz.prog 5=some (.int .u8 0):=by kernel_rfl
theorem bB:aW Tryz.prog 3=some 1:=by kernel_rfl
theorem Zz:fe Tryz.prog 3=some 8:=by kernel_rfl
theorem bC:bY Tryz.prog 3=some false:=by kernel_rfl
theorem TR:bW Tryz.prog 3=some (.int .i64 0):=by kernel_rfl
theorem gv:aW Tryz.prog 22=some 1:=by kernel_rfl
theorem gw:bY Tryz.prog 22=some false:=by kernel_rfl
theorem zSl:bW Tryz.prog 22=some (.slice none 0 0):=by kernel_rfl
end Go.Proofs.YtdfjfncifneocaaGreat
set_option linter.unusedSimpArgs false
set_option linter.unusedVariables false
set_option maxRecDepth 100000
namespace Go.Proofs.YtdfjfncifneocaaGreat
open Go.Cl
theorem QW {a b:List UInt8}{i:Nat}(ha:i<a.length)(hb:i<b.length)(h:a.take i=b.take i)(he:a.getD i 0=b.getD i 0):a.take (i+1)=b.take (i+1):=by
 rw[List.take_succ_eq_append_getElem ha,List.take_succ_eq_append_getElem hb,h]
 simp[List.getD,List.getElem?_eq_getElem ha,List.getElem?_eq_getElem hb] at he
 rw[he]
theorem TS {lib:az}(hl:lib.at 18=none)(s:aq)(x y:Value)(a b:List UInt8)(hx:aN s 1 x a.length (ofBytes a))(hy:aN s 1 y b.length (ofBytes b))(ha:a.length<=4294967296)(hb:b.length<=4294967296):
  Runs Tryz.prog lib 18 [x,y] s fun v s' =>v= .bool (decide (a=b))/\s' =s:=by
 refine Runs.enter 26 Tryz.func18 rfl hl rfl rfl ?_
 intro f hn hf
 have h0:f.get 0=x:=hf 0
 have h1:f.get 1=y:=hf 1
 clear hf
 simp only[aj,ak,ad,QS,WP,↓reduceIte,hn,h0,h1,hx.bh Tryz.underlying22,hy.bh Tryz.underlying22]
 refine iq (fun h=> ?_) (fun h=> ?_)
 ·simp only[aj,al,oneOf,QS,↓reduceIte,hn,Tryz.results18]
  have:¬a=b:=fun e=>by subst e;simp at h
  simp[this]
 ·have Hl:a.length=b.length:=by simpa using h
  simp only[aj,QS,↓reduceIte,hn]
  refine Comes.eU (fun k f s' =>∃i:Nat,k=a.length-i/\i<=a.length/\a.take i=b.take i/\f.n=26/\f.get 0=x/\f.get 1=y/\f.get 5= .int .i64 i/\s' =s) ⟨0,rfl,by omega,rfl,by simp only[aj,hn],by simp only[aj,WP,↓reduceIte,h0],by simp only[aj,WP,↓reduceIte,h1],by simp only[aj,↓reduceIte];rfl,rfl⟩ ?_
  clear hn h0 h1 f
  rintro k f _ ⟨i,rfl,hi,heq,hn,h0,h1,h5,rfl⟩
  by_cases bc:i<a.length
  ·simp (disch:=omega) only[aj,ak,ad,QS,WP,↓reduceIte,hn,h0,h1,h5,hx.bh Tryz.underlying22,bc,hx.indexAddr Tryz.underlying22 bL,hy.indexAddr Tryz.underlying22 bL,hx.dJ mB,hy.dJ mB,bG,hx.self,hy.self]
   refine iq (fun h=> ?_) (fun h=> ?_)
   ·simp only[aj,al,oneOf,QS,↓reduceIte,hn,Tryz.results18]
    have:¬a=b:=fun e=>by subst e;simp at h
    simp[this]
   ·simp (disch:=omega) only[aj,QS,WP,↓reduceIte,hn,h5,aB]
    refine au (a.length-(i+1)) (by omega) ⟨i+1,rfl,by omega,?_,by simp only[ag,hn],by simp only[aa,↓reduceIte,WP,h0],by simp only[aa,↓reduceIte,WP,h1],by simp only[aa,↓reduceIte];rfl,rfl⟩
    refine QW bc (by omega) heq ?_
    simpa [UInt8.toNat_inj] using h
  ·simp only[aj,al,oneOf,ad,QS,WP,↓reduceIte,hn,h0,h5,hx.bh Tryz.underlying22,bc,Tryz.results18]
   have:a=b:=by rw[List.take_of_length_le (by omega),List.take_of_length_le (by omega)] at heq;exact heq
   simp[this]
structure cC (s:aq) (v:Value) (s' :aq) (l:List UInt8):Prop where
 own:Own s' 1 v l.length (ofBytes l)
 fresh:aH s.next v
 stay:ar s.next s s'
theorem pw {l:List UInt8}{i:Nat}(h:i<l.length):l.take (i+1)=l.take i++[l.getD i 0]:=by
 rw[List.take_succ_eq_append_getElem h];simp[List.getD,List.getElem?_eq_getElem h]
end Go.Proofs.YtdfjfncifneocaaGreat
namespace Go.Cl.Pr
def QX (a b:Int):Int:=if b-a>a-b then b-a else a-b
def abd (a b c:Int):Int:=if QX (a+b-c) a<=QX (a+b-c) b/\QX (a+b-c) a<=QX (a+b-c) c then a else if QX (a+b-c) b<=QX (a+b-c) c then b else c
def abe (tag a b c:Int):Int:=if tag=1 then a else if tag=2 then b else if tag=3 then(a+b)/2 else if tag=4 then abd a b c else 0
def OU (z:Int):UInt8:=UInt8.ofNat (z%256).toNat
def aeN (l:List UInt8)(n c i:Nat):Int:=if c<=i%n then(((l.getD (i-c) 0).toNat:Nat):Int) else 0
def abf (l:List UInt8)(n i:Nat):Int:=if n<=i then(((l.getD (i-n) 0).toNat:Nat):Int) else 0
def Xv (l:List UInt8)(n c i:Nat):Int:=if n<=i/\c<=i%n then(((l.getD (i-n-c) 0).toNat:Nat):Int) else 0
def gs (tag:Int)(l:List UInt8)(n c i:Nat):Int:=abe tag (aeN l n c i) (abf l n i) (Xv l n c i)
def hdP (T:Int)(g:Bool)(n i:Nat):List UInt8:=if g=true/\i%n=0 then [OU T] else []
def QY (T:Int)(g:Bool)(l:List UInt8)(n c m:Nat):List UInt8:=(List.range m).flatMap fun i=>hdP T g n i++[OU ((((l.getD i 0).toNat:Nat):Int)-gs T l n c i)]
theorem QZ (T:Int)(g:Bool)(l:List UInt8)(n c m:Nat):QY T g l n c (m+1)=QY T g l n c m++hdP T g n m++[OU ((((l.getD m 0).toNat:Nat):Int)-gs T l n c m)]:=by
 unfold QY
 rw[List.range_succ,List.flatMap_append]
 simp
theorem abg (T:Int)(g:Bool)(n i:Nat):(hdP T g n i).length<=1:=by unfold hdP;split<;>simp
theorem Xw (T:Int)(g:Bool)(l:List UInt8)(n c m:Nat):(QY T g l n c m).length<=2*m:=by
 induction m with
 |zero=>simp[QY]
 |succ m ih=>
  rw[QZ,List.length_append,List.length_append]
  have:=abg T g n m
  simp;omega
def ri (p co cl:Int):Prop:=(p=1\/p=2\/(10<=p/\p<=15))/\1<=co/\co<=4/\1<=cl/\cl<=4096
instance (p co cl:Int):Decidable (ri p co cl):=by unfold ri;infer_instance
def aeP (p:Int):Int:=if p=15 then 2 else if 10<=p then p-10 else 1
def iU (p co cl:Int)(l:List UInt8):List UInt8×Int:=
 if¬ri p co cl then([],1) else if p=1 then(l,0) else if l.length%(co.toNat*cl.toNat)≠0 then([],4) else(QY (aeP p) (decide (10<=p)) l (co.toNat*cl.toNat) co.toNat l.length,0)
theorem JB (p co cl:Int)(l:List UInt8):(iU p co cl l).1.length<=2*l.length:=by
 unfold iU
 split
 ·simp
 ·split
  ·show l.length<=_;omega
  ·split
   ·simp
   ·exact Xw ..
def ai2 (l:List UInt8)(n r:Nat):List UInt8:=(l.drop (r*n)).take n
def aeQ (l:List UInt8)(n m:Nat):List (List UInt8):=(List.range m).map (ai2 l n)
end Go.Cl.Pr
namespace Go.Cl
section
variable {P:Program} {lib:az} {all:List Oper}
end
theorem Mt {P:Program}{lib:az}{all r:List Oper}{o:Oper}{f:aT}{s:aq}{Q:aT->aq->Prop}{b:Bool}(J:aT->aq->Prop)(h1:∀Q' :aT->aq->Prop,(∀f' s',J f' s' ->Q' f' s')->vO P lib all o r f s Q' b)(h2:∀f' s',J f' s' ->Q f' s'):vO P lib all o r f s Q b:=h1 Q h2
end Go.Cl
namespace Go.Cl
section
variable (P:Program) (lib:az) (b:Nat) (all:List Oper) (r:List Oper) (id:Nat) (f:aT) (T:aq) (Q:aT->aq->Prop)
variable (d:Option Tmp) (ty:TypeId) (ps:String) (af:Array Edge) (gd:Option (Nat×Bool))
end
structure qj (s0:aq) (K:Nat) (i id:Nat) (arv:List (Nat×Nat×jE)) (T U:aq):Prop extends Stands s0 K i id arv T U where
 Xx:ar s0.next s0 T
 Xy:ar s0.next s0 U
 ids:∀x∈arv,s0.next<=x.2.1
section
variable {P:Program} {lib:az} {b:Nat} {all r:List Oper} {id:Nat} {f:aT} {T:aq} {d:Option Tmp} {Q:aT->aq->Prop}
end
end Go.Cl
namespace Go.Cl
namespace LA
structure dD (A:Nat->Bool) (s s' :aq):Prop where
 next:s.next<=s'.next
 get:∀i,A i=true->s'.heap.get i=s.heap.get i
theorem dD.refl (A:Nat->Bool)(s:aq):dD A s s:=⟨Nat.le_refl _,fun _ _=>rfl⟩
theorem dD.trans {A:Nat->Bool}{s s' ss:aq}(h:dD A s s')(k:dD A s' ss):dD A s ss:=⟨Nat.le_trans h.next k.next,fun i hi=>(k.get i hi).trans (h.get i hi)⟩
theorem ar.OW {A:Nat->Bool}{n:Nat}{s s' :aq}(hA:∀i,A i=true->i<n)(h:ar n s s'):dD A s s' :=⟨h.next,fun i hi=>h.get i (hA i hi)⟩
def ZB (o:Oper):Bool:=
 match o.op with
 | .slice _ _ _ _ _=>true
 | .load _ _=>true
 | .call ⟨.builtin .len,_,_⟩=>true
 | .convert _ _ _=>true
 |_=>false
def hJ (P:Program)(o:Oper):Bool:=eW o||(ZB o&&aM P o)
def fg (A:Nat->Bool):Option Value->Bool
 |some (.slice (some a) _ c)=>A a.block||Nat.beq c 0
 |some (.slice none _ _)=>true
 |some (.string _)=>true
 |some (.pointer (some a))=>A a.block
 |_=>false
def Q0 (A:Nat->Bool):Option Value->Bool
 |some (.slice a n c)=>fg A (some (.slice a n c))
 |_=>true
theorem JC {A:Nat->Bool}(k:IntKind)(n:Int):Q0 A (some (.int k n))=true:=rfl
theorem zu {A:Nat->Bool}(b:ByteArray):Q0 A (some (.string b))=true:=rfl
def HQ:Option (List Value)->Bool
 |some [.slice _ _ _]=>true
 |some [.string _]=>true
 |_=>false
def lS (o:Oper)(f:aT)(A:Nat->Bool):Bool:=
 match o.op with
 | .slice _ x _ _ _=>fg A (aO f x)
 | .load _ x=>fg A (aO f x)
 | .call ⟨.builtin .len,args,_⟩=>HQ (ad f args.toList)
 | .convert _ _ x=>Q0 A (aO f x)
 |_=>true
theorem Cu {P:Program}{s t:aq}{A:Nat->Bool}(h:dD A s t){ty:TypeId}{u:Value}{lo hi mx:Option Value}(hl:fg A (some u)=true):du P s ty u lo hi mx=du P t ty u lo hi mx:=by
 unfold du
 generalize P.underlying ty=U
 have ee:∀i c,(A i=true\/c=0)->∀z,jT s i c z=jT t i c z:=fun i c hi z=>by
  unfold jT
  cases c with
  |zero=>rfl
  |succ c=>simp only[aq.bA,h.get i (hi.resolve_right (by omega))]
 cases U with
 |none=>rfl
 |some D=>
  cases u with
  |slice a n c=>
   cases a with
   |none=>cases D<;>rfl
   |some a=>
    obtain⟨i,off,sp⟩:=a
    have hi:A i=true\/c=0:=by simpa [fg,Nat.blt_eq] using hl
    cases sp with
    |none=>cases D<;>simp only[ee i c hi]
    |some k=>cases D<;>rfl
  |string x=>cases D<;>rfl
  |pointer a=>
   cases a with
   |none=>simp[fg] at hl
   |some a=>
    obtain⟨i,off,sp⟩:=a
    have hi:A i=true:=by simpa [fg,Nat.blt_eq] using hl
    have hb:s.bA i=t.bA i:=by simp only[aq.bA,h.get i hi]
    cases sp with
    |none=>cases D<;>rfl
    |some k=>cases D<;>simp only[hb]
  |_=>simp[fg] at hl
theorem FO {P:Program}{s t:aq}{A:Nat->Bool}(h:dD A s t){ty:TypeId}{u:Value}(hl:fg A (some u)=true):aR P s ty u=aR P t ty u:=by
 unfold aR
 cases u with
 |pointer a=>
  cases a with
  |none=>rfl
  |some a=>
   obtain⟨i,off,sp⟩:=a
   have hi:A i=true:=by simpa [fg,Nat.blt_eq] using hl
   have hb:∀off c n,s.de i off c n=t.de i off c n:=fun off c n=>by simp only[aq.de,aq.bA,h.get i hi]
   cases sp with
   |none=>rfl
   |some k=>simp only[hb]
 |_=>rfl
theorem TT {P:Program}{s t:aq}{ty:TypeId}{u:Value}(hl:HQ (some [u])=true):bh P s ty u=bh P t ty u:=by
 unfold bh
 generalize P.underlying ty=U
 cases U with
 |none=>rfl
 |some D=>
  cases u with
  |slice a n c=>cases D<;>rfl
  |string x=>cases D<;>rfl
  |_=>simp[HQ] at hl
theorem Q1 {P:Program}{s0 s t:aq}{A:Nat->Bool}(hs:dD A s0 s)(ht:dD A s0 t){src dst:TypeId}(hd:∀e,P.underlying dst≠some (.slice e)){u:Value}(hl:Q0 A (some u)=true){v:Value}{s' :aq}(h:fW P s src dst u=some (v,s')):fW P t src dst u=some (v,t):=by
 unfold fW at h|-
 split at h
 ·cases h;rfl
 ·cases h;rfl
 ·rename_i hh;exact absurd hh (hd _)
 ·rename_i hh;exact absurd hh (hd _)
 ·split at h
  ·rename_i hc;rw[if_pos hc];cases h;rfl
  ·cases h
 ·rename_i e i off len c _ _
  split at h
  case isFalse=>cases h
  rename_i hc
  rw[if_pos hc]
  cases len with
  |zero=>cases h;rfl
  |succ n=>
   have hc:A i=true\/c=0:=by simpa [Q0,fg] using hl
   have he:s.de i off c (n+1)=t.de i off c (n+1):=by
    rcases hc with hi|h0
    ·simp only[aq.de,aq.bA,hs.get i hi,ht.get i hi]
    ·subst h0
     have hz:∀q:aq,q.de i off 0 (n+1)=none:=fun q=>by
      simp only[aq.de];cases q.bA i with
      |none=>rfl
      |some b=>have:Nat.blt (off+(n+1)) 0=false:=by rw[<-Bool.not_eq_true,Nat.blt_eq];omega
               simp[this]
     rw[hz,hz]
   simp only at h|-
   rw[<-he]
   cases hce:s.de i off c (n+1) with
   |none=>rw[hce] at h;cases h
   |some l=>
    rw[hce] at h
    simp only at h|-
    cases hb:nM l with
    |none=>rw[hb] at h;cases h
    |some bs=>rw[hb] at h;cases h;rfl
 ·cases h
theorem TU {P:Program}{o:Oper}{A:Nat->Bool}{s0:aq}(h:hJ P o=true){f:aT}{s t:aq}(hl:lS o f A=true)(hs:dD A s0 s)(ht:dD A s0 t){v:Value}{s' :aq}(ha:cM P o f s=some (.val v s')):cM P o f t=some (.val v t):=by
 cases hp:eW o with
 |true=>exact wg hp ha
 |false=>
  simp only[hJ,hp,Bool.false_or,Bool.and_eq_true] at h
  obtain⟨h,hq⟩:=h
  obtain⟨dst,op,type,pos,after,guard⟩:=o
  have Mu:∀{r1 r2:Option Value},r1=r2->oW s r1=some (.val v s')->oW t r2=some (.val v t):=by
   intro r1 r2 e hv
   subst e
   cases r1 with
   |none=>cases hv
   |some w=>
    rw[vU] at hv
    injection hv with hv;injection hv with hv _;subst hv;rfl
  cases op<;>simp only[ZB] at h<;>try (cases h;done)
  case slice ty x lo hi mx=>
   rw[xZ] at ha|-
   simp only[lS] at hl
   split at ha
   ·rename_i u l hh m hu h2 h3 h4
    rw[hu] at hl
    have e1:=Cu (P:=P) hs (ty:=ty) (lo:=l) (hi:=hh) (mx:=m) hl
    have e2:=Cu (P:=P) ht (ty:=ty) (lo:=l) (hi:=hh) (mx:=m) hl
    exact Mu (by rw[<-e1,<-e2]) ha
   ·cases ha
  case convert src dst x=>
   rw[sj] at ha|-
   simp only[lS] at hl
   split at ha
   ·rename_i u hu
    rw[hu] at hl
    cases hc:fW P s src dst u with
    |none=>rw[hc] at ha;cases ha
    |some r=>
     obtain⟨w,s1⟩:=r
     rw[hc,eV] at ha
     injection ha with ha;injection ha with hw _
     subst hw
     have hd:∀e,P.underlying dst≠some (.slice e):=fun e he=>by simp[aM,he] at hq
     rw[Q1 hs ht hd hl hc];rfl
   ·cases ha
  case load ty x=>
   rw[B1] at ha|-
   simp only[lS] at hl
   split at ha
   ·rename_i u hu
    rw[hu] at hl
    have e1:=FO (P:=P) hs (ty:=ty) hl
    have e2:=FO (P:=P) ht (ty:=ty) hl
    exact Mu (by rw[<-e1,<-e2]) ha
   ·cases ha
  case call cl=>
   obtain⟨callee,args,ts⟩:=cl
   cases callee with
   |builtin bi=>
    cases bi<;>simp only at h<;>try (cases h;done)
    simp only[lS] at hl
    rw[ir] at ha|-
    cases hev:ad f args.toList with
    |none=>rw[hev] at hl;simp[HQ] at hl
    |some vs=>
     rw[hev] at hl ha
     match vs,hl with
     |[u],hl=>
      simp only at ha|-
      unfold iP at ha|-
      split at ha<;>rename_i hts<;>simp_all
      rw[<-TT (P:=P) (s:=s) (t:=t) hl];exact Mu ha
     |[],hl=>simp[HQ] at hl
     |a::b::r,hl=>cases a<;>simp[HQ] at hl
   |_=>simp at h
theorem FP (p:Nat->Bool)(A:Nat->Bool):∀(arv:List (Nat×Nat×jE)) (T:aq),(∀x∈arv,A x.2.1=false)->dD A T (Cl.fill p T arv):=by
 intro arv
 induction arv with
 |nil=>intro T _;exact dD.refl _ _
 |cons x arv ih=>
  intro T h
  obtain⟨j,id,bk⟩:=x
  have gn:A id=false:=h (j,id,bk) (List.mem_cons_self ..)
  have hr:=fun y hy=>h y (List.mem_cons_of_mem _ hy)
  simp only[Cl.fill]
  split
  ·exact dD.trans (s' :=T.put id (.dK bk)) ⟨Nat.le_refl _,fun i hi=>aq.bD _ _ _ _ (by intro e;subst e;rw[gn] at hi;cases hi)⟩ (ih _ hr)
  ·exact ih _ hr
section
variable (P:Program) (lib:az) (A:Nat->Bool) (all:List Oper) (r:List Oper) (id:Nat) (f:aT) (T:aq) (Q:aT->aq->Prop)
variable (d:Option Tmp) (ty:TypeId) (ps:String) (af:Array Edge) (gd:Option (Nat×Bool))
theorem JD (x:Operand):lS ⟨d,.move x,ty,ps,af,gd⟩ f A=true:=rfl
theorem Cv (x:Operand):lS ⟨d,.assign x,ty,ps,af,gd⟩ f A=true:=rfl
theorem JE (x y z:Operand):lS ⟨d,.pick x y z,ty,ps,af,gd⟩ f A=true:=rfl
theorem wm (x:Operand):lS ⟨d,.nilCheck x,ty,ps,af,gd⟩ f A=true:=rfl
theorem FQ (o:BinOp)(t:TypeId)(x y:Operand)(u:TypeId):lS ⟨d,.binOp o t x y u,ty,ps,af,gd⟩ f A=true:=rfl
theorem JF (o:UnOp)(t:TypeId)(x:Operand):lS ⟨d,.unOp o t x,ty,ps,af,gd⟩ f A=true:=rfl
theorem zw (t u:TypeId)(x:Operand):lS ⟨d,.convert t u x,ty,ps,af,gd⟩ f A=Q0 A (aO f x):=rfl
theorem ud (t:TypeId)(x:Operand)(i:Nat):lS ⟨d,.fieldAddr t x i,ty,ps,af,gd⟩ f A=true:=rfl
theorem FT (t:TypeId)(x:Operand)(i:Nat):lS ⟨d,.field t x i,ty,ps,af,gd⟩ f A=true:=rfl
theorem ue (t:TypeId)(x y:Operand):lS ⟨d,.indexAddr t x y,ty,ps,af,gd⟩ f A=true:=rfl
theorem FU (t:TypeId)(x y:Operand):lS ⟨d,.index t x y,ty,ps,af,gd⟩ f A=true:=rfl
theorem zx (x:Operand)(i:Nat):lS ⟨d,.extract x i,ty,ps,af,gd⟩ f A=true:=rfl
theorem JG (t:TypeId)(x:Operand):lS ⟨d,.load t x,ty,ps,af,gd⟩ f A=fg A (aO f x):=rfl
theorem OX (args:Array Operand)(ts:Array TypeId):lS ⟨d,.call ⟨.builtin .len,args,ts⟩,ty,ps,af,gd⟩ f A=HQ (ad f args.toList):=rfl
theorem zy (x:ByteArray):HQ (some [.string x])=true:=rfl
theorem cD {i o:Nat}{c:Option Nat}(h:A i=true):fg A (some (.pointer (some ⟨i,o,c⟩)))=true:=by simpa [fg,Nat.blt_eq] using h
theorem FV (t:TypeId)(x:Operand)(lo hi mx:Option Operand):lS ⟨d,.slice t x lo hi mx,ty,ps,af,gd⟩ f A=fg A (aO f x):=rfl
end
theorem FW {s:aq}{z:Nat}{v:Value}{n:Nat}{l:List Value}(h:aN s z v n l):HQ (some [v])=true:=by
 cases h<;>rfl
def Cw (P:Program)(o:Oper):Bool:= !hJ P o&& !aK P o
structure qj (A:Nat->Bool) (s0:aq) (K:Nat) (i id:Nat) (arv:List (Nat×Nat×jE)) (T U:aq):Prop extends Stands s0 K i id arv T U where
 Xx:dD A s0 T
 Xy:dD A s0 U
 ids:∀x∈arv,A x.2.1=false
theorem Q3 {P:Program}{o:Oper}(h:hJ P o=true):aM P o=true:=by
 cases hp:eW o with
 |true=>exact Cn hp
 |false=>
  simp only[hJ,hp,Bool.false_or,Bool.and_eq_true] at h
  exact h.2
section
variable {P:Program} {lib:az} {A:Nat->Bool} {all r:List Oper} {id:Nat} {f:aT} {T:aq} {d:Option Tmp} {Q:aT->aq->Prop}
end
end LA
theorem bS:type_of%
 (And.intro (And.intro (And.intro (And.intro @LA.JD @LA.Cv) (And.intro @LA.JE @LA.JG)) (And.intro (And.intro @LA.wm
 @LA.FQ) (And.intro @LA.JF (And.intro @LA.zw @LA.JC)))) (And.intro (And.intro (And.intro @LA.zu @LA.ud) (And.intro
 @LA.FT @LA.ue)) (And.intro (And.intro @LA.FU @LA.zx) (And.intro @LA.OX (And.intro @LA.FV @LA.zy))))):=
 (And.intro (And.intro (And.intro (And.intro @LA.JD @LA.Cv) (And.intro @LA.JE @LA.JG)) (And.intro (And.intro @LA.wm
 @LA.FQ) (And.intro @LA.JF (And.intro @LA.zw @LA.JC)))) (And.intro (And.intro (And.intro @LA.zu @LA.ud) (And.intro
 @LA.FT @LA.ue)) (And.intro (And.intro @LA.FU @LA.zx) (And.intro @LA.OX (And.intro @LA.FV @LA.zy)))))
end Go.Cl
