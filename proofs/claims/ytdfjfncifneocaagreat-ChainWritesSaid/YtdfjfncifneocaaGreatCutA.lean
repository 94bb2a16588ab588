/-
 The clean machine, part 22: rules for what makes memory and what writes it.
-/
import Derived.Test.YtdfjfncifneocaaGreatDraw
import Derived.Test.YtdfjfncifneocaaGreatProg
import Derived.KernelRfl
import Derived.Test.YtdfjfncifneocaaGreatMem
namespace Go.Cl
section
variable {P:Program} {lib:ay} {all r:List Oper} {f:aR} {s:aq} {d:Option Tmp} {Q:aR->aq->Prop}
theorem aQ {cs:List Value}{n z:Nat}(h:cs.length=n*z)(K:∀v s',Own s' z v n cs->aN s.next v->ar s.next s s' ->er P lib all r f s d Q (some (.val v s'))):er P lib all r f s d Q (lZ (aX s cs n z)):=by
 obtain⟨h1,h2⟩:=Own.new (s:=s) h
 rw[h1,dW]
 exact K _ _ h2 (fun i hi=>by injection hi with hi;subst hi;exact Nat.le_refl _) (ar.new s _)
theorem bG {st xt e:TypeId}{xd:TypeDesc}{z lX:Nat}{zv:Value}(hu:P.underlying st=some (.slice e))(Nf:P.underlying xt=some xd)(Gw:(∃e2,xd= .slice e2)\/xd= .string)(cJ:bq P e=some z)(yg:eW P e=some lX)(qW:cE P e=some zv)(mf:Nat.beq zv.cells.toList.length z=true)
  {x y:Value} {n m:Nat} {l new:List Value} (hx:Own s z x n l) (hy:dJ s z y=some (m,new)) (ir:new.length=m*z) (sJ:0<z) (dE:new.all aO=true) (jv:(n+m)*lX<=140737488355328) (eR:n+m<=140737488355328) {base:Nat} (hF:aN base x) (hB:base<=s.next)
  (K:∀x' s',Own s' z x' (n+m) (l++new)->aN base x' ->ar base s s' ->bm x s s' ->(aJ x' =aJ x\/∃i,aJ x' =some i/\s.next<=i)->er P lib all r f s d Q (some (.val x' s'))):er P lib all r f s d Q (lZ (gl P s st xt x y)):=by
 obtain⟨x',s',h1,h2,h3,h4⟩:=Own.append hu Nf Gw cJ yg qW mf hx hy ir sJ dE jv eR
 rw[h1,dW]
 refine K _ _ h2 (fun i hi=> ?_) (h3.keeps hF hB) h3 h4
 rcases h4 with h4|⟨j,hj,hl⟩
 ·exact hF i (by rw[<-h4];exact hi)
 ·rw[hj] at hi;injection hi with hi;omega
theorem a9 {st e:TypeId}{z lX:Nat}{zv:Value}(hu:P.underlying st=some (.slice e))(cJ:bq P e=some z)(yg:eW P e=some lX)(qW:cE P e=some zv)(mf:Nat.beq zv.cells.toList.length z=true)
  {x:Value} {n m:Nat} {l new:List Value} {a b:Tmp} {ty:TypeId} {ps:String} {af:Array Edge} (hx:Own s z x n l) (zk:f.get a=x) (CZ:b≠a) (ha:a<f.n) (hb:b<f.n) (ir:new.length=m*z) (sJ:0<z) (dE:new.all aO=true) (jv:(n+m)*lX<=140737488355328) (eR:n+m<=140737488355328) {base:Nat} (hF:aN base x) (hB:base<=s.next)
  (K:∀bs x' s',Own s' z x' (n+m) (l++new)->aN base x' ->ar base s s' ->bm x s s' ->(aJ x' =aJ x\/∃i,aJ x' =some i/\s.next<=i)->er P lib all r (f.put b bs) s' d Q (some (.val x' s'))):
  er P lib all (⟨d,.call ⟨.builtin .append, #[.tmp a,.tmp b], #[st,st]⟩,ty,ps,af,none⟩::r) f s (some b) Q (lZ (aX s new m z)):=by
 refine aQ ir fun bs s1 h1 h2 h3=> ?_
 have iU:=hx.keeps h3
 obtain⟨x',s',g1,g2,g3,g4⟩:=Own.append hu hu (.inl ⟨e,rfl⟩) cJ yg qW mf iU h1.aH.src ir sJ dE jv eR
 have g4' :aJ x' =aJ x\/∃i,aJ x' =some i/\s.next<=i:=g4.imp id (fun⟨i,a,b⟩=>⟨i,a,Nat.le_trans h3.next b⟩)
 have g3' :bm x s s' :=⟨Nat.le_trans h3.next g3.next,fun i hi cD=>(g3.get i (Nat.lt_of_lt_of_le hi h3.next) cD).trans (h3.get i hi)⟩
 have vE:aN base x' :=fun i hi=>by
  rcases g4' with h4|⟨j,hj,hl⟩
  ·exact hF i (by rw[<-h4];exact hi)
  ·rw[hj] at hi;injection hi with hi;omega
 have k:=K bs x' s' g2 vE (g3'.keeps hF hB) g3' g4'
 have e1:ad (f.put b bs) [.tmp a,.tmp b]=some [x,bs]:=by
  simp only[ad,xf,ae,ha,hb,if_true,aa,zk,if_neg CZ]
 have e2:cy P ⟨d,.call ⟨.builtin .append, #[.tmp a,.tmp b], #[st,st]⟩,ty,ps,af,none⟩ (f.put b bs) s1=some (.val x' s'):=by
  rw[gv,e1]
  simp only[builtin_append,g1,dW]
 rw[w7,if_pos hb,mD,rM,jF,e2]
 exact k
theorem gN {t e:TypeId}{k:IntKind}{a:Int}(hu:P.underlying t=some (.slice e))(cJ:bq P e=some 1)(hz:cE P e=some (.int k 0)):aU P s t 1 [(0,.int k a)]=aX s [.int k a] 1 1:=by
 unfold aU;rw[hu];simp only[cJ,hz];rfl
theorem LJ {t e:TypeId}{zv v:Value}(hu:P.underlying t=some (.slice e))(cJ:bq P e=some 1)(hz:cE P e=some zv)(pH:cH zv=true)(mf:∃w,zv.cells.toList=[w])(hv:v.cells.toList=[v]):aU P s t 1 [(0,v)]=aX s [v] 1 1:=by
 obtain⟨w,hw⟩:=mf
 unfold aU;rw[hu];simp only[cJ,hz,pH,hw,bS,iM,hv,List.length_singleton];rfl
theorem S8 {t e:TypeId}{zv v u:Value}(hu:P.underlying t=some (.slice e))(cJ:bq P e=some 1)(hz:cE P e=some zv)(pH:cH zv=true)(mf:∃w,zv.cells.toList=[w])(hv:v.cells.toList=[v])(G3:u.cells.toList=[u]):aU P s t 2 [(0,v),(1,u)]=aX s [v,u] 2 1:=by
 obtain⟨w,hw⟩:=mf
 unfold aU;rw[hu];simp only[cJ,hz,pH,hw,bS,iM,hv,G3,List.length_singleton];rfl
theorem uw {t e:TypeId}{k:IntKind}{a b:Int}(hu:P.underlying t=some (.slice e))(cJ:bq P e=some 1)(hz:cE P e=some (.int k 0)):aU P s t 2 [(0,.int k a),(1,.int k b)]=aX s [.int k a,.int k b] 2 1:=by
 unfold aU;rw[hu];simp only[cJ,hz];rfl
theorem Wa {t e:TypeId}{k:IntKind}{a b c d:Int}(hu:P.underlying t=some (.slice e))(cJ:bq P e=some 1)(hz:cE P e=some (.int k 0)):aU P s t 4 [(0,.int k a),(1,.int k b),(2,.int k c),(3,.int k d)]=aX s [.int k a,.int k b,.int k c,.int k d] 4 1:=by
 unfold aU;rw[hu];simp only[cJ,hz];rfl
theorem FC {t e:TypeId}{k:IntKind}{a b c d g:Int}(hu:P.underlying t=some (.slice e))(cJ:bq P e=some 1)(hz:cE P e=some (.int k 0)):aU P s t 5 [(0,.int k a),(1,.int k b),(2,.int k c),(3,.int k d),(4,.int k g)]=aX s [.int k a,.int k b,.int k c,.int k d,.int k g] 5 1:=by
 unfold aU;rw[hu];simp only[cJ,hz];rfl
end
structure av (s:aq) (i:Nat) (cs:List Value):Prop where
 lt:i<s.next
 dL:∃low z,s.bK i=some ⟨cs,low,true,z⟩/\low<=cs.length+1
theorem av.keeps {s s' :aq}{i:Nat}{cs:List Value}(h:av s i cs)(k:ar s.next s s'):av s' i cs:=
 ⟨Nat.lt_of_lt_of_le h.lt k.next,by obtain⟨low,z,h1,h2⟩:=h.dL;exact⟨low,z,(k.dL h.lt).trans h1,h2⟩⟩
theorem av.turns {s s' :aq}{i:Nat}{cs:List Value}{v:Value}(h:av s i cs)(k:bm v s s')(cD:aJ v≠some i):av s' i cs:=
 ⟨Nat.lt_of_lt_of_le h.lt k.next,by
  obtain⟨low,z,h1,h2⟩:=h.dL
  refine⟨low,z,?_,h2⟩
  simp only[aq.bK,k.get i h.lt cD];exact h1⟩
theorem av.load {P:Program}{e:TypeId}(ow:cw P e=some false){s:aq}{i:Nat}{cs:List Value}(h:av s i cs){off c:Nat}(hc:c=cs.length+1)(ho:off<cs.length):aG P s e (.pointer (some ⟨i,off,some c⟩))=some (cs.getD off undef):=by
 obtain⟨low,z,h1,h2⟩:=h.dL
 subst hc
 unfold aG
 simp only[ow]
 rw[iz h1 h2 (Nat.le_refl _) (by omega)]
 have:(cs.drop off).take 1=[cs.getD off undef]:=by
  rw[List.take_one,List.head?_drop,List.getElem?_eq_getElem (by omega)]
  simp[List.getD,List.getElem?_eq_getElem (show off<cs.length by omega)]
 simp only[this]
theorem av.cY {P:Program}{e:TypeId}(ow:cw P e=some true){s:aq}{i:Nat}{cs:List Value}(cJ:bq P e=some cs.length)(h:av s i cs){c:Nat}(hc:c=cs.length+1):aG P s e (.pointer (some ⟨i,0,some c⟩))=some (.agg cs.toArray):=by
 obtain⟨low,z,h1,h2⟩:=h.dL
 subst hc
 unfold aG
 simp only[ow,cJ]
 rw[iz h1 h2 (Nat.le_refl _) (by omega)]
 simp
theorem kl:∀(l:List Value) (off:Nat) (vs:List Value),off+vs.length<=l.length->setAt l off vs=some (l.take off++vs++l.drop (off+vs.length)):=by
 intro l
 induction l with
 |nil=>intro off vs h;cases vs with
  |nil=>simp at h;subst h;simp[setAt]
  |cons v r=>simp at h
 |cons c r ih=>
  intro off vs h
  cases off with
  |zero=>
   cases vs with
   |nil=>simp[setAt]
   |cons v vs=>
    simp only[setAt]
    rw[ih 0 vs (by simpa using h)]
    simp
  |succ n=>
   cases vs with
   |nil=>simp[setAt]
   |cons v vs=>
    simp only[setAt]
    rw[ih n (v::vs) (by simp at h|-;omega)]
    simp only[List.length_cons,List.take_succ_cons,List.cons_append,show n+1+(vs.length+1)=(n+(vs.length+1))+1 by omega,List.drop_succ_cons]
theorem av.store {P:Program}{e:TypeId}(cJ:bq P e=some 1){s:aq}{i:Nat}{cs:List Value}(h:av s i cs){off c:Nat}(hc:c=cs.length+1)(ho:off<cs.length){v:Value}(hv:aO v=true):
  ∃s',fi P s e (.pointer (some ⟨i,off,some c⟩)) v=some s' /\av s' i (cs.set off v)/\(s'.next=s.next/\∀j,j≠i->s'.heap.get j=s.heap.get j):=by
 obtain⟨low,z,h1,h2⟩:=h.dL
 subst hc
 have lK:v.cells.toList=[v]:=by cases v<;>first|rfl|cases hv
 refine⟨s.put i (.dL ⟨cs.set off v,cs.length+1,true,z⟩),?_,⟨h.lt,cs.length+1,z,?_,by simp⟩,rfl,fun j hj=>aq.a8 _ _ _ _ (Ne.symm hj)⟩
 ·unfold fi
  simp only[cJ,lK,List.length_singleton]
  unfold aq.storeAt
  have ux:setAt cs off [v]=some (cs.set off v):=by
   rw[kl _ _ _ (by simp;omega)]
   rw[List.set_eq_take_append_cons_drop,if_pos ho]
   simp
  have jg:(true&&Nat.ble low (cs.length+1)&&Nat.beq (cs.length+1) (cs.length+1)&&[v].all aO)=true:=by
   simp[h2,hv]
  simp only[h1,jg,if_true,ux]
  rfl
 ·exact aq.cg _ _ _ (by omega)
section
variable {P:Program} {lib:ay} {all r:List Oper} {f:aR} {s:aq} {d:Option Tmp} {Q:aR->aq->Prop}
theorem cL {e:TypeId}(cJ:bq P e=some 1){i:Nat}{cs:List Value}(h:av s i cs){off c:Nat}(hc:c=cs.length+1)(ho:off<cs.length){v:Value}(hv:aO v=true)
  (K:∀s',av s' i (cs.set off v)->s'.next=s.next->(∀j,j≠i->s'.heap.get j=s.heap.get j)->er P lib all r f s d Q (some (.val undef s'))):er P lib all r f s d Q (CT (fi P s e (.pointer (some ⟨i,off,some c⟩)) v)):=by
 obtain⟨s',h1,h2,h3,h4⟩:=h.store cJ hc ho hv
 rw[h1,j9]
 exact K s' h2 h3 h4
theorem aw {cs:List Value}{z:Nat}(K:∀s',av s' s.next cs->ar s.next s s' ->s'.next=s.next+1->er P lib all r f s d Q (some (.val (.pointer (some ⟨s.next,0,some (cs.length+1)⟩)) s'))):er P lib all r f s d Q (lZ (fw s cs z)):=by
 have:fw s cs z=some (.pointer (some ⟨s.next,0,some (cs.length+1)⟩),s.new (.dL ⟨cs,1,true,z⟩)):=by simp[fw,aq.room]
 rw[this,dW]
 exact K _ ⟨by rw[vB];omega,1,z,lh _ _,by omega⟩ (ar.new _ _) rfl
end
theorem bm.bc {s s' :aq}{i o:Nat}{c:Option Nat}(h1:s'.next=s.next)(h2:∀j,j≠i->s'.heap.get j=s.heap.get j):bm (.pointer (some ⟨i,o,c⟩)) s s' :=
 ⟨by omega,fun j _ hj=>h2 j (fun e=>hj (by rw[e];rfl))⟩
theorem ar.bc {s s' :aq}{i base:Nat}(h1:s'.next=s.next)(h2:∀j,j≠i->s'.heap.get j=s.heap.get j)(hb:base<=i):ar base s s' :=
 ⟨by omega,fun j hj=>h2 j (by omega)⟩
theorem Own.bc {s s' :aq}{i:Nat}(h1:s'.next=s.next)(h2:∀j,j≠i->s'.heap.get j=s.heap.get j){z:Nat}{v:Value}{n:Nat}{l:List Value}(h:Own s z v n l)(cD:aJ v≠some i):Own s' z v n l:=
 h.turns (bm.bc (o:=0) (c:=none) h1 h2) (fun j hj e=>cD (by rw[hj];injection e with e;rw[<-e]))
theorem aM.bc {s s' :aq}{i:Nat}(h1:s'.next=s.next)(h2:∀j,j≠i->s'.heap.get j=s.heap.get j){z:Nat}{v:Value}{n:Nat}{l:List Value}(h:aM s z v n l)(cD:aJ v≠some i):aM s' z v n l:=by
 cases h with
 |nil=>exact .nil
 |bare=>exact .bare _ _
 |of j off n c b l hi hb hz hl hc hlen fL ht=>
  refine .of j off n c b l (by omega) ?_ hz hl hc hlen fL ht
  simp only[aq.bK,h2 j (fun e=>cD (by rw[e];rfl))];exact hb
theorem Own.put {P:Program}{e:TypeId}(cJ:bq P e=some 1){s:aq}{v:Value}{n:Nat}{l:List Value}(h:Own s 1 v n l){k:Nat}(hk:k<n){w:Value}(hw:aO w=true):
  ∃s',fi P s e (aT 1 v k) w=some s' /\Own s' 1 v n (l.set k w)/\bm v s s' :=by
 cases h with
 |nil=>omega
 |of i n low l hi hb hl hlen=>
  have cT:l.length=n:=by omega
  have R9:av s i l:=⟨hi,low,1,hb,hl⟩
  obtain⟨s',h1,h2,h3,h4⟩:=R9.store cJ (off:=k) (c:=l.length+1) rfl (by omega) hw
  have qV:s'.bK i=some ⟨l.set k w,l.length+1,true,1⟩:=by
   have lK:w.cells.toList=[w]:=by cases w<;>first|rfl|cases hw
   unfold fi at h1
   simp only[cJ,lK,List.length_singleton] at h1
   unfold aq.storeAt at h1
   have ux:setAt l k [w]=some (l.set k w):=by
    rw[kl _ _ _ (by simp;omega)]
    rw[List.set_eq_take_append_cons_drop,if_pos (by omega)]
    simp
   have jg:(true&&Nat.ble low (l.length+1)&&Nat.beq (l.length+1) (l.length+1)&&[w].all aO)=true:=by
    simp[hl,hw]
   simp only[hb,jg,if_true,ux] at h1
   have M3:some (s.put i (.dL ⟨l.set k w,l.length+1,true,1⟩))=some s' :=h1
   injection M3 with M3
   rw[<-M3];exact aq.cg _ _ _ (by omega)
  refine⟨s',?_,?_,⟨by omega,fun j _ hj=>h4 j (fun e=>hj (by rw[e];rfl))⟩⟩
  ·simpa [aT] using h1
  ·have:=Own.of (z:=1) i n (l.length+1) (l.set k w) h2.lt qV (by simp) (by simp[hlen])
   simpa using this
theorem dq {P:Program}{lib:ay}{all r:List Oper}{f:aR}{s:aq}{d:Option Tmp}{Q:aR->aq->Prop}{e:TypeId}(cJ:bq P e=some 1){v:Value}{n:Nat}{l:List Value}(h:Own s 1 v n l){k:Nat}(hk:k<n){w:Value}(hw:aO w=true)
  (K:∀s',Own s' 1 v n (l.set k w)->bm v s s' ->er P lib all r f s d Q (some (.val undef s'))):er P lib all r f s d Q (CT (fi P s e (aT 1 v k) w)):=by
 obtain⟨s',h1,h2,h3⟩:=h.put cJ hk hw
 rw[h1,j9]
 exact K s' h2 h3
theorem Hr (v:Value):∀n,bS [v] n=List.replicate n v:=by
 intro n
 induction n with
 |zero=>rfl
 |succ n ih=>simp[bS,ih,List.replicate_succ]
theorem vF {P:Program}{s:aq}{t e:TypeId}{k k1 k2:IntKind}{b8:Nat}(hu:P.underlying t=some (.slice e))(cJ:bq P e=some 1)(hz:cE P e=some (.int k 0))(hb:eW P e=some b8){n:Nat}(hn:b8*n<=4294967296)(nH:n<=4294967296):
  eu P s t (.int k1 n) (.int k2 n)=aX s (List.replicate n (.int k 0)) n 1:=by
 show(match P.underlying t,Value.int k1 (Int.ofNat n),Value.int k2 (Int.ofNat n) with
 |some (.slice e),.int _ (.ofNat l),.int _ (.ofNat c)=>
  match bq P e,cE P e,eW P e with
  |some n,some z,some lX=>
   if Nat.ble l c&&Nat.ble c 4294967296&&Nat.ble (lX*c) 4294967296&&cH z&&Nat.beq z.cells.toList.length n then aX s (bS z.cells.toList l) l n else none
  |_,_,_=>none
 |_,_,_=>none)=_
 rw[hu]
 simp only[cJ,hz,hb]
 have hc:(Nat.ble n n&&Nat.ble n 4294967296&&Nat.ble (b8*n) 4294967296&&cH (.int k 0)&&Nat.beq (Value.int k 0).cells.toList.length 1)=true:=by
  simp only[Bool.and_eq_true,Nat.ble_eq];exact⟨⟨⟨⟨Nat.le_refl _,nH⟩,hn⟩,rfl⟩,rfl⟩
 rw[if_pos hc]
 have:(Value.int k 0).cells.toList=[.int k 0]:=rfl
 rw[this,Hr]
section
variable {P:Program} {lib:ay} {all r:List Oper} {id:Nat} {f:aR} {T:aq} {d:Option Tmp} {Q:aR->aq->Prop}
theorem PW (v:Value)(b:iC):Bk P lib all r id f T d Q (some (v,b))=yN P lib all r (id+1) f d Q v (T.put id (.dL b)):=rfl
theorem Bp {cs:List Value}{n z base:Nat}(h:cs.length=n*z)(fc:id<T.next)(hb:base<=id)
  (K:∀v T',Own T' z v n cs->aJ v=some id->ar base T T' ->T'.next=T.next->(∀j,j≠id->T'.heap.get j=T.heap.get j)->yN P lib all r (id+1) f d Q v T'):Bk P lib all r id f T d Q (cR id (lZ (aX ⟨.nil,id⟩ cs n z))):=by
 have e:cR id (lZ (aX ⟨.nil,id⟩ cs n z))=some (.slice (some ⟨id,0,none⟩) n (cs.length+1),⟨cs,1,true,z⟩):=by
  have:aX ⟨.nil,id⟩ cs n z=some (.slice (some ⟨id,0,none⟩) n (cs.length+1),(⟨.nil,id⟩:aq).new (.dL ⟨cs,1,true,z⟩)):=by simp[aX,aq.room]
  rw[this,dW]
  have hb:((⟨.nil,id⟩:aq).new (.dL ⟨cs,1,true,z⟩)).bK id=some ⟨cs,1,true,z⟩:=lh ⟨.nil,id⟩ _
  simp only[cR,hb]
 rw[e,PW]
 have wQ:∀j,j≠id->(T.put id (.dL ⟨cs,1,true,z⟩)).heap.get j=T.heap.get j:=fun j hj=>aq.a8 _ _ _ _ (Ne.symm hj)
 refine K _ _ (.of id n 1 cs (by simpa [aq.put] using fc) (aq.cg _ _ _ (by omega)) (by omega) h) rfl ⟨Nat.le_refl _,fun j hj=>wQ j (by omega)⟩ rfl wQ
theorem FD {st xt e:TypeId}{xd:TypeDesc}{z lX:Nat}{zv:Value}(hu:P.underlying st=some (.slice e))(Nf:P.underlying xt=some xd)(Gw:(∃e2,xd= .slice e2)\/xd= .string)(cJ:bq P e=some z)(yg:eW P e=some lX)(qW:cE P e=some zv)(mf:Nat.beq zv.cells.toList.length z=true)
  {x y:Value} {n m:Nat} {l new:List Value} (hx:Own T z x n l) (hy:dJ T z y=some (m,new)) (ir:new.length=m*z) (sJ:0<z) (dE:new.all aO=true) (jv:(n+m)*lX<=140737488355328) (eR:n+m<=140737488355328) {base:Nat} (hF:aN base x) (hB:base<=T.next)
  (K:∀x' T',Own T' z x' (n+m) (l++new)->aN base x' ->ar base T T' ->bm x T T' ->(aJ x' =aJ x\/∃i,aJ x' =some i/\T.next<=i)->yN P lib all r id f d Q x' T'):qC P lib all r id f d T Q (lZ (gl P T st xt x y)):=by
 obtain⟨x',s',h1,h2,h3,h4⟩:=Own.append hu Nf Gw cJ yg qW mf hx hy ir sJ dE jv eR
 rw[h1,dW]
 refine K _ _ h2 (fun i hi=> ?_) (h3.keeps hF hB) h3 h4
 rcases h4 with h4|⟨j,hj,hl⟩
 ·exact hF i (by rw[<-h4];exact hi)
 ·rw[hj] at hi;injection hi with hi;omega
end
def oH (v:Value):Value:=
 match v with
 | .slice (some ⟨i,off,none⟩) _ c=> .pointer (some ⟨i,off,some c⟩)
 |_=> .pointer none
theorem vG {P:Program}{lib:ay}{all r:List Oper}{f:aR}{s:aq}{d:Option Tmp}{Q:aR->aq->Prop}{cs:List Value}{n:Nat}(h:cs.length=n)(K:∀v s',Own s' 1 v n cs->aN s.next v->ar s.next s s' ->er P lib all r f s d Q (some (.val (oH v) s'))):er P lib all r f s d Q (lZ (fw s cs 1)):=by
 obtain⟨h1,h2⟩:=Own.new (s:=s) (cs:=cs) (n:=n) (z:=1) (by omega)
 have:fw s cs 1=some (.pointer (some ⟨s.next,0,some (cs.length+1)⟩),s.new (.dL ⟨cs,1,true,1⟩)):=by simp[fw,aq.room]
 rw[this,dW]
 exact K _ _ h2 (fun i hi=>by injection hi with hi;subst hi;exact Nat.le_refl _) (ar.new s _)
theorem Own.Hs {P:Program}{t e:TypeId}{m:Nat}(hu:P.underlying t=some (.array m e))(cJ:bq P e=some 1){s:aq}{v:Value}{l:List Value}(h:Own s 1 v m l){k:IntKind}{x:Int}(h0:0<=x)(hx:x<m):
  dC P t (oH v) (.int k x)=some (aT 1 v x.toNat):=by
 obtain⟨y,rfl⟩:∃y:Nat,x=y:=⟨x.toNat,by omega⟩
 have hy:y<m:=by omega
 have eR:Nat.blt y m=true:=by simpa [Nat.blt_eq] using hy
 show dC P t (oH v) (.int k (Int.ofNat y))=_
 cases h with
 |nil=>omega
 |of i n low l hi hb hl hlen=>
  unfold dC;rw[hu]
  simp only[oH,cJ,eR,if_true,aT,Int.toNat_natCast]
theorem Own.Ht {P:Program}{t e:TypeId}{m:Nat}(hu:P.underlying t=some (.array m e))(cJ:bq P e=some 1){s:aq}{v:Value}{l:List Value}(hm:0<m)(h:Own s 1 v m l){k:IntKind}{y:Int}(h0:0<=y)(hy:y<=m):
  dH P s t (oH v) none (some (.int k y)) none=some (ez 1 v 0 y.toNat):=by
 cases h with
 |nil=>omega
 |of i n low l hi hb hl hlen=>
  have e1:hJ (some (.int k y)) m=some y.toNat:=kO h0
  have hc:(Nat.ble 0 y.toNat&&Nat.ble y.toNat m&&Nat.ble low (l.length+1)&&Nat.ble (l.length+1) (l.length+1)&&Nat.blt (0+m*1) (l.length+1)&&Nat.beq 1 1&&Nat.blt 0 1)=true:=by
   simp only[Bool.and_eq_true,Nat.ble_eq,Nat.blt_eq,Nat.beq_eq]
   have h1:y.toNat<=m:=by omega
   have h2:m=l.length:=by omega
   exact⟨⟨⟨⟨⟨⟨Nat.zero_le _,h1⟩,hl⟩,Nat.le_refl _⟩,by omega⟩,by trivial⟩,by omega⟩
  unfold dH;rw[hu]
  simp only[oH,kN,e1,cJ,hb,hc,if_true,ez]
theorem ai:type_of%
 (And.intro (And.intro (And.intro (And.intro (And.intro (And.intro (And.intro @AH @vm) (And.intro @AJ (And.intro @AK
 @DV))) (And.intro (And.intro @vn (And.intro @DW @AL)) (And.intro @uq (And.intro @AM @Hg)))) (And.intro
 (And.intro (And.intro @DX (And.intro @yu @yv)) (And.intro @Hh (And.intro @DY @AN))) (And.intro (And.intro
 @AP (And.intro @yw @DZ)) (And.intro @vl (And.intro @mD @jF))))) (And.intro (And.intro (And.intro (And.intro
 @dk @w7) (And.intro @rH (And.intro @AA @AB))) (And.intro (And.intro @AD (And.intro @uo @nR))
 (And.intro @AF (And.intro @o8 @oY)))) (And.intro (And.intro (And.intro @oZ (And.intro @DU @xm))
 (And.intro @uv (And.intro @Ec @pc))) (And.intro (And.intro @pd (And.intro @Ed @Ee)) (And.intro
 @rR (And.intro @Bl @Bm)))))) (And.intro (And.intro (And.intro (And.intro (And.intro @Bn @A7) (And.intro
 @pa (And.intro @yE @yF))) (And.intro (And.intro @D7 (And.intro @yG @qy)) (And.intro @vx
 (And.intro @A8 @D8)))) (And.intro (And.intro (And.intro @D9 (And.intro @pb @yH)) (And.intro @Ea (And.intro
 @yI @qz))) (And.intro (And.intro @A9 (And.intro @tW @Ba)) (And.intro @vy (And.intro @Bb
 @Bc))))) (And.intro (And.intro (And.intro (And.intro @rP (And.intro @yJ @Bd)) (And.intro @qA (And.intro
 @yK @qB))) (And.intro (And.intro @yL (And.intro @yM @tX)) (And.intro @Bool.false_and (And.intro
 @Bool.and_false @AQ)))) (And.intro (And.intro (And.intro @yx (And.intro @D0 @vz)) (And.intro @vA (And.intro @Hj
 @AZ))) (And.intro (And.intro @A0 (And.intro @D3 @Lt)) (And.intro @xg (And.intro @rI @vq))))))) (And.intro
 (And.intro (And.intro (And.intro (And.intro (And.intro @D4 @pY) (And.intro @xh (And.intro @A1 @rJ))) (And.intro (And.intro
 @yy (And.intro @tS @sL)) (And.intro @oE (And.intro @xi @oF)))) (And.intro (And.intro (And.intro
 @xj (And.intro @A2 @tT)) (And.intro @rK (And.intro @rL @gv))) (And.intro (And.intro @rM
 (And.intro @yz @D5)) (And.intro @vu (And.intro @aa @ae))))) (And.intro (And.intro (And.intro (And.intro @xf @AS)
 (And.intro @D2 (And.intro @vo @AU))) (And.intro (And.intro @AV (And.intro @AW @AY)) (And.intro @fJ
 (And.intro @rN @dW)))) (And.intro (And.intro (And.intro @j9 (And.intro @builtin_len @builtin_append)) (And.intro @builtin_copy (And.intro
 @builtin_min @builtin_max))) (And.intro (And.intro @Lu (And.intro @Lv @Lw)) (And.intro @Lx (And.intro @ic @Ly)))))) (And.intro
 (And.intro (And.intro (And.intro (And.intro @LF @LG) (And.intro @LH (And.intro @PK @PL))) (And.intro (And.intro @Be (And.intro
 @dx @cM)) (And.intro @lf (And.intro @nS @bA)))) (And.intro (And.intro (And.intro @Bg (And.intro
 @vv @tU)) (And.intro @A3 (And.intro @vw @A4))) (And.intro (And.intro @A5 (And.intro @yA
 @A6)) (And.intro @qw (And.intro @yB @D6))))) (And.intro (And.intro (And.intro (And.intro @qx (And.intro
 @yC @yD)) (And.intro @rO (And.intro @tV @tY))) (And.intro (And.intro @kN (And.intro @Nat.zero_add
 @true_and)) (And.intro @and_true (And.intro @and_self @Bool.and_true)))) (And.intro (And.intro (And.intro @Bool.true_and (And.intro @decide_true @decide_false))
 (And.intro @Bool.false_eq_true (And.intro @beq_true @beq_false))) (And.intro (And.intro @Bool.not_true (And.intro @Bool.not_false @Int.toNat_natCast)) (And.intro
 @Int.ofNat_lt (And.intro @Int.ofNat_le @Int.natCast_inj)))))))):=
 (And.intro (And.intro (And.intro (And.intro (And.intro (And.intro (And.intro @AH @vm) (And.intro @AJ (And.intro @AK
 @DV))) (And.intro (And.intro @vn (And.intro @DW @AL)) (And.intro @uq (And.intro @AM @Hg)))) (And.intro
 (And.intro (And.intro @DX (And.intro @yu @yv)) (And.intro @Hh (And.intro @DY @AN))) (And.intro (And.intro
 @AP (And.intro @yw @DZ)) (And.intro @vl (And.intro @mD @jF))))) (And.intro (And.intro (And.intro (And.intro
 @dk @w7) (And.intro @rH (And.intro @AA @AB))) (And.intro (And.intro @AD (And.intro @uo @nR))
 (And.intro @AF (And.intro @o8 @oY)))) (And.intro (And.intro (And.intro @oZ (And.intro @DU @xm))
 (And.intro @uv (And.intro @Ec @pc))) (And.intro (And.intro @pd (And.intro @Ed @Ee)) (And.intro
 @rR (And.intro @Bl @Bm)))))) (And.intro (And.intro (And.intro (And.intro (And.intro @Bn @A7) (And.intro
 @pa (And.intro @yE @yF))) (And.intro (And.intro @D7 (And.intro @yG @qy)) (And.intro @vx
 (And.intro @A8 @D8)))) (And.intro (And.intro (And.intro @D9 (And.intro @pb @yH)) (And.intro @Ea (And.intro
 @yI @qz))) (And.intro (And.intro @A9 (And.intro @tW @Ba)) (And.intro @vy (And.intro @Bb
 @Bc))))) (And.intro (And.intro (And.intro (And.intro @rP (And.intro @yJ @Bd)) (And.intro @qA (And.intro
 @yK @qB))) (And.intro (And.intro @yL (And.intro @yM @tX)) (And.intro @Bool.false_and (And.intro
 @Bool.and_false @AQ)))) (And.intro (And.intro (And.intro @yx (And.intro @D0 @vz)) (And.intro @vA (And.intro @Hj
 @AZ))) (And.intro (And.intro @A0 (And.intro @D3 @Lt)) (And.intro @xg (And.intro @rI @vq))))))) (And.intro
 (And.intro (And.intro (And.intro (And.intro (And.intro @D4 @pY) (And.intro @xh (And.intro @A1 @rJ))) (And.intro (And.intro
 @yy (And.intro @tS @sL)) (And.intro @oE (And.intro @xi @oF)))) (And.intro (And.intro (And.intro
 @xj (And.intro @A2 @tT)) (And.intro @rK (And.intro @rL @gv))) (And.intro (And.intro @rM
 (And.intro @yz @D5)) (And.intro @vu (And.intro @aa @ae))))) (And.intro (And.intro (And.intro (And.intro @xf @AS)
 (And.intro @D2 (And.intro @vo @AU))) (And.intro (And.intro @AV (And.intro @AW @AY)) (And.intro @fJ
 (And.intro @rN @dW)))) (And.intro (And.intro (And.intro @j9 (And.intro @builtin_len @builtin_append)) (And.intro @builtin_copy (And.intro
 @builtin_min @builtin_max))) (And.intro (And.intro @Lu (And.intro @Lv @Lw)) (And.intro @Lx (And.intro @ic @Ly)))))) (And.intro
 (And.intro (And.intro (And.intro (And.intro @LF @LG) (And.intro @LH (And.intro @PK @PL))) (And.intro (And.intro @Be (And.intro
 @dx @cM)) (And.intro @lf (And.intro @nS @bA)))) (And.intro (And.intro (And.intro @Bg (And.intro
 @vv @tU)) (And.intro @A3 (And.intro @vw @A4))) (And.intro (And.intro @A5 (And.intro @yA
 @A6)) (And.intro @qw (And.intro @yB @D6))))) (And.intro (And.intro (And.intro (And.intro @qx (And.intro
 @yC @yD)) (And.intro @rO (And.intro @tV @tY))) (And.intro (And.intro @kN (And.intro @Nat.zero_add
 @true_and)) (And.intro @and_true (And.intro @and_self @Bool.and_true)))) (And.intro (And.intro (And.intro @Bool.true_and (And.intro @decide_true @decide_false))
 (And.intro @Bool.false_eq_true (And.intro @beq_true @beq_false))) (And.intro (And.intro @Bool.not_true (And.intro @Bool.not_false @Int.toNat_natCast)) (And.intro
 @Int.ofNat_lt (And.intro @Int.ofNat_le @Int.natCast_inj))))))))
theorem aj:type_of%(And.intro @cond_true.{1} (And.intro @cond_false.{1} (And.intro @List.drop_zero.{0} (And.intro @List.drop_succ_cons.{0} (And.intro @List.cons_append.{0} (And.intro @List.nil_append.{0} (And.intro @List.getD_cons_zero.{0} (And.intro @List.getD_cons_succ.{0} (And.intro @List.set_cons_zero.{0} (And.intro @List.set_cons_succ.{0} (And.intro @if_true.{1} (And.intro @if_false.{1} (And.intro @beq_self_eq_true.{0} (And.intro @ne_eq.{1} (And.intro @eq_self.{1} (And.intro @not_true_eq_false @not_false_eq_true)))))))))))))))):=(And.intro @cond_true.{1} (And.intro @cond_false.{1} (And.intro @List.drop_zero.{0} (And.intro @List.drop_succ_cons.{0} (And.intro @List.cons_append.{0} (And.intro @List.nil_append.{0} (And.intro @List.getD_cons_zero.{0} (And.intro @List.getD_cons_succ.{0} (And.intro @List.set_cons_zero.{0} (And.intro @List.set_cons_succ.{0} (And.intro @if_true.{1} (And.intro @if_false.{1} (And.intro @beq_self_eq_true.{0} (And.intro @ne_eq.{1} (And.intro @eq_self.{1} (And.intro @not_true_eq_false @not_false_eq_true))))))))))))))))
end Go.Cl
set_option linter.unusedSimpArgs false
set_option linter.unusedVariables false
set_option maxRecDepth 100000
namespace Go.Proofs.YtdfjfncifneocaaGreat
open Go.Cl
theorem bh:bq Tryz.prog 5=some 1:=by kernel_rfl
theorem gh:eW Tryz.prog 5=some 1:=by kernel_rfl
theorem gZ:cw Tryz.prog 5=some false:=by kernel_rfl
theorem gR:cE Tryz.prog 5=some (.int .u8 0):=by kernel_rfl
theorem cG:bq Tryz.prog 3=some 1:=by kernel_rfl
theorem Y2:eW Tryz.prog 3=some 8:=by kernel_rfl
theorem cj:cw Tryz.prog 3=some false:=by kernel_rfl
theorem Wb:cE Tryz.prog 3=some (.int .i64 0):=by kernel_rfl
theorem iY:bq Tryz.prog 22=some 1:=by kernel_rfl
theorem mV:cw Tryz.prog 22=some false:=by kernel_rfl
theorem zSl:cE Tryz.prog 22=some (.slice none 0 0):=by kernel_rfl
end Go.Proofs.YtdfjfncifneocaaGreat
set_option linter.unusedSimpArgs false
set_option linter.unusedVariables false
set_option maxRecDepth 100000
namespace Go.Proofs.YtdfjfncifneocaaGreat
open Go.Cl
theorem Nl {a b:List UInt8}{i:Nat}(ha:i<a.length)(hb:i<b.length)(h:a.take i=b.take i)(he:a.getD i 0=b.getD i 0):a.take (i+1)=b.take (i+1):=by
 rw[List.take_succ_eq_append_getElem ha,List.take_succ_eq_append_getElem hb,h]
 simp[List.getD,List.getElem?_eq_getElem ha,List.getElem?_eq_getElem hb] at he
 rw[he]
theorem Bq {lib:ay}(hl:lib.at 18=none)(s:aq)(x y:Value)(a b:List UInt8)(hx:aM s 1 x a.length (ofBytes a))(hy:aM s 1 y b.length (ofBytes b))(ha:a.length<=4294967296)(hb:b.length<=4294967296):
  Runs Tryz.prog lib 18 [x,y] s fun v s' =>v= .bool (decide (a=b))/\s' =s:=by
 refine Runs.enter 26 Tryz.func18 rfl hl rfl rfl ?_
 intro f hn hf
 have h0:f.get 0=x:=hf 0
 have h1:f.get 1=y:=hf 1
 clear hf
 simp only[ai,aj,ad,Nat.reduceLT,Nat.reduceEqDiff,↓reduceIte,hn,h0,h1,hx.aV Tryz.underlying22,hy.aV Tryz.underlying22]
 refine fI (fun h=> ?_) (fun h=> ?_)
 ·simp only[ai,al,oneOf,Nat.reduceLT,↓reduceIte,hn,Tryz.results18]
  have:¬a=b:=fun e=>by subst e;simp at h
  simp[this]
 ·have CZ:a.length=b.length:=by simpa using h
  simp only[ai,Nat.reduceLT,↓reduceIte,hn]
  refine Comes.eY (fun k f s' =>∃i:Nat,k=a.length-i/\i<=a.length/\a.take i=b.take i/\f.n=26/\f.get 0=x/\f.get 1=y/\f.get 5= .int .i64 i/\s' =s) ⟨0,rfl,by omega,rfl,by simp only[ai,hn],by simp only[ai,Nat.reduceEqDiff,↓reduceIte,h0],by simp only[ai,Nat.reduceEqDiff,↓reduceIte,h1],by simp only[ai,↓reduceIte];rfl,rfl⟩ ?_
  clear hn h0 h1 f
  rintro k f _ ⟨i,rfl,hi,heq,hn,h0,h1,h5,rfl⟩
  by_cases aP:i<a.length
  ·simp (disch:=omega) only[ai,aj,ad,Nat.reduceLT,Nat.reduceEqDiff,↓reduceIte,hn,h0,h1,h5,hx.aV Tryz.underlying22,aP,hx.indexAddr Tryz.underlying22 bh,hy.indexAddr Tryz.underlying22 bh,hx.cU gZ,hy.cU gZ,aZ,hx.self,hy.self]
   refine fI (fun h=> ?_) (fun h=> ?_)
   ·simp only[ai,al,oneOf,Nat.reduceLT,↓reduceIte,hn,Tryz.results18]
    have:¬a=b:=fun e=>by subst e;simp at h
    simp[this]
   ·simp (disch:=omega) only[ai,Nat.reduceLT,Nat.reduceEqDiff,↓reduceIte,hn,h5,aD]
    refine au (a.length-(i+1)) (by omega) ⟨i+1,rfl,by omega,?_,by simp only[ae,hn],by simp only[aa,↓reduceIte,Nat.reduceEqDiff,h0],by simp only[aa,↓reduceIte,Nat.reduceEqDiff,h1],by simp only[aa,↓reduceIte];rfl,rfl⟩
    refine Nl aP (by omega) heq ?_
    simpa [UInt8.toNat_inj] using h
  ·simp only[ai,al,oneOf,ad,Nat.reduceLT,Nat.reduceEqDiff,↓reduceIte,hn,h0,h5,hx.aV Tryz.underlying22,aP,Tryz.results18]
   have:a=b:=by rw[List.take_of_length_le (by omega),List.take_of_length_le (by omega)] at heq;exact heq
   simp[this]
structure bU (s:aq) (v:Value) (s' :aq) (l:List UInt8):Prop where
 own:Own s' 1 v l.length (ofBytes l)
 fresh:aN s.next v
 stay:ar s.next s s'
theorem sU {l:List UInt8}{i:Nat}(h:i<l.length):l.take (i+1)=l.take i++[l.getD i 0]:=by
 rw[List.take_succ_eq_append_getElem h];simp[List.getD,List.getElem?_eq_getElem h]
end Go.Proofs.YtdfjfncifneocaaGreat
namespace Go.Cl
section
variable {P:Program} {t:TypeId}
theorem FH {a b:List UInt8}(h:a.length+b.length<=4294967296):du P .add t (.string ⟨a.toArray⟩) (.string ⟨b.toArray⟩)=some (.string ⟨(a++b).toArray⟩):=by
 have hb:Nat.ble (a.length+b.length) 4294967296=true:=by simpa [Nat.ble_eq] using h
 simp[du,zT,hb]
theorem gO (a b:List UInt8):du P .eql t (.string ⟨a.toArray⟩) (.string ⟨b.toArray⟩)=some (.bool (decide (a=b))):=by
 simp only[du,zT]
 congr 2
 by_cases h:a=b
 ·subst h;simp
 ·simp[h]
theorem zF (a b:List UInt8):du P .neq t (.string ⟨a.toArray⟩) (.string ⟨b.toArray⟩)=some (.bool (decide (a≠b))):=by
 simp only[du,zT]
 congr 2
 by_cases h:a=b
 ·subst h;simp
 ·simp[h]
theorem qa (hu:P.underlying t=some .string)(s:aq)(a:List UInt8):aV P s t (.string ⟨a.toArray⟩)=some (.int .i64 a.length):=by
 unfold aV;rw[hu]
theorem str_slice (hu:P.underlying t=some .string){s:aq}{a:List UInt8}{k k2:IntKind}{x y:Int}(h0:0<=x)(h1:x<=y)(h2:y<=a.length):dH P s t (.string ⟨a.toArray⟩) (some (.int k x)) (some (.int k2 y)) none=some (.string ⟨((a.take y.toNat).drop x.toNat).toArray⟩):=by
 have hb:(Nat.ble x.toNat y.toNat&&Nat.ble y.toNat a.length)=true:=by
  simp only[Bool.and_eq_true,Nat.ble_eq];omega
 have e1:hJ (some (.int k x)) 0=some x.toNat:=kO h0
 have e2:hJ (some (.int k2 y)) a.length=some y.toNat:=kO (by omega)
 unfold dH;rw[hu]
 simp only[e1,e2,hb,if_true]
theorem xq {s:aq}{dst e:TypeId}(hu:P.underlying t=some .string)(hd:P.underlying dst=some (.slice e))(he:P.underlying e=some (.int .u8)){a:List UInt8}(h:a.length<=9223372036854775807):gG P s t dst (.string ⟨a.toArray⟩)=aX s (ofBytes a) a.length 1:=by
 unfold gG;rw[hu,hd]
 have h8:CS P e=true:=by unfold CS;rw[he]
 have hb:Nat.ble a.length 9223372036854775807=true:=by simpa [Nat.ble_eq] using h
 simp[h8,hb]
theorem JO (a:List UInt8):nL (ofBytes a)=some a:=by
 induction a with
 |nil=>rfl
 |cons c a ih=>
  rw[Fu]
  simp only[nL,ih,toByte]
  have:UInt8.ofNat ((c.toNat:Int)).toNat=c:=by simp
  rw[this]
theorem aM.str {s:aq}{dst e:TypeId}(hu:P.underlying t=some (.slice e))(hd:P.underlying dst=some .string)(he:P.underlying e=some (.int .u8)){v:Value}{a:List UInt8}(h:aM s 1 v a.length (ofBytes a)):gG P s t dst v=some (.string ⟨a.toArray⟩,s):=by
 have h8:CS P e=true:=by unfold CS;rw[he]
 generalize hn:a.length=n at h
 generalize ha:ofBytes a=l at h
 have hlen:l.length=n:=by rw[<-ha,br,hn]
 cases h with
 |nil=>
  have:a=[]:=List.eq_nil_of_length_eq_zero hn
  subst this
  unfold gG;rw[hu,hd];simp[h8]
 |bare=>
  have:a=[]:=List.eq_nil_of_length_eq_zero hn
  subst this
  unfold gG;rw[hu,hd];simp[h8]
 |of i off n c b l hi hb hz hl hc oP fL ht=>
  unfold gG;rw[hu,hd]
  simp only[h8,if_true]
  cases n with
  |zero=>
   have:a=[]:=List.eq_nil_of_length_eq_zero hn
   subst this;rfl
  |succ n=>
   simp only
   rw[iz hb hl hc (by omega)]
   have:(b.cells.drop off).take (n+1)=ofBytes a:=by rw[Nat.mul_one] at ht;rw[ht,ha]
   rw[this]
   simp only[JO]
end
end Go.Cl
set_option linter.unusedSimpArgs false
set_option linter.unusedVariables false
set_option maxRecDepth 100000
namespace Go.Proofs.YtdfjfncifneocaaGreat
open Go.Cl
theorem Br:bq Tryz.prog 9=some 1:=by kernel_rfl
theorem mW:cw Tryz.prog 9=some false:=by kernel_rfl
def PX (T:List (List UInt8)):List Value:=T.map fun a=> .string ⟨a.toArray⟩
theorem Nm {T:List (List UInt8)}{i:Nat}(h:i<T.length):(PX T).getD i undef= .string ⟨(T[i]).toArray⟩:=by
 simp[PX,List.getD_eq_getElem?_getD,List.getElem?_eq_getElem h]
def Y3 (s:aq)(a:List UInt8)(T:List (List UInt8))(v:Value)(s' :aq):Prop:=(∃r:Int,v= .int .i64 r/\(0<=r↔a∈T))/\s' =s
set_option maxHeartbeats 4000000 in
theorem JP {lib:ay}(hl:lib.at 78=none)(s:aq)(x:Value)(a:List UInt8)(T:List (List UInt8))(hx:aM s 1 x T.length (PX T))(hT:T.length<=1000000):
  Runs Tryz.prog lib 78 [x,.string ⟨a.toArray⟩] s (Y3 s a T):=by
 refine Runs.enter 19 Tryz.func78 rfl hl rfl rfl ?_
 intro f hn hf
 have h0:f.get 0=x:=hf 0
 have h1:f.get 1= .string ⟨a.toArray⟩:=hf 1
 clear hf
 simp-implicitDefEqProofs(disch:=omega)only[ai,ad,Nat.reduceLT,Nat.reduceEqDiff,↓reduceIte,hn,h0,hx.aV Tryz.underlying27]
 refine Comes.eY (fun z f s' =>∃(i:Nat),z=T.length-i/\i<=T.length/\a∉T.take i/\s' =s/\f.n=19/\f.get 0=x/\f.get 1= .string ⟨a.toArray⟩/\f.get 7= .int .i64 T.length/\f.get 8= .int .i64 i)
  ⟨0,rfl,by omega,by simp,rfl,by simp only[ae,hn],by simp only[aa,↓reduceIte,Nat.reduceEqDiff,h0],by simp only[aa,↓reduceIte,Nat.reduceEqDiff,h1],by simp only[aa,↓reduceIte,Nat.reduceEqDiff],by simp only[aa,↓reduceIte];rfl⟩ ?_
 clear hn h0 h1 f
 rintro z f s2 ⟨i,rfl,hi,OB,df,hn,h0,h1,h7,h8⟩
 subst df
 by_cases aP:i<T.length
 ·have c1:(i:Int)<(T.length:Int):=by omega
  have pe:=hx.indexAddr (k:= .i64) (x:=(i:Int)) Tryz.underlying27 Br (by omega) (by omega)
  rw[Int.toNat_natCast] at pe
  have fM:=hx.cU (P:=Tryz.prog) mW aP
  rw[Nm aP] at fM
  have OJ:T.take (i+1)=T.take i++[T[i]]:=by rw[List.take_succ_eq_append_getElem aP]
  have he:=gO (P:=Tryz.prog) (t:=9) a T[i]
  by_cases c2:a=T[i]
  ·rw[decide_eq_true c2] at he
   simp-implicitDefEqProofs(disch:=omega)only[ai,Nat.reduceLT,Nat.reduceEqDiff,↓reduceIte,hn,h0,h1,h7,h8,eq_true c1,pe,fM,he]
   simp-implicitDefEqProofs(disch:=omega)only[ai,al,oneOf,Nat.reduceLT,↓reduceIte,hn,Tryz.results78]
   exact⟨⟨(i:Int),rfl,by rw[c2];simp⟩,rfl⟩
  ·rw[decide_eq_false c2] at he
   simp-implicitDefEqProofs(disch:=omega)only[ai,Nat.reduceLT,Nat.reduceEqDiff,↓reduceIte,hn,h0,h1,h7,h8,eq_true c1,pe,fM,he,aD]
   refine au (T.length-(i+1)) (by omega) ⟨i+1,rfl,by omega,by rw[OJ];intro h;rcases List.mem_append.mp h with h|h;exact OB h;exact c2 (List.mem_singleton.mp h),rfl,by simp only[ae,hn],by simp only[aa,↓reduceIte,Nat.reduceEqDiff,h0],by simp only[aa,↓reduceIte,Nat.reduceEqDiff,h1],by simp only[aa,↓reduceIte,Nat.reduceEqDiff,h7],by simp only[aa,↓reduceIte];rfl⟩
 ·obtain rfl:i=T.length:=by omega
  have c1:¬(T.length:Int)<(T.length:Int):=by omega
  rw[List.take_of_length_le (Nat.le_refl _)] at OB
  simp-implicitDefEqProofs(disch:=omega)only[ai,al,oneOf,Nat.reduceLT,↓reduceIte,hn,h7,h8,eq_false c1,Tryz.results78]
  exact⟨⟨-1,rfl,by simp[OB]⟩,rfl⟩
theorem Di {lib:ay}(hl:lib.at 43=none)(I4:lib.at 78=none)(s:aq)(x:Value)(a:List UInt8)(T:List (List UInt8))(hx:aM s 1 x T.length (PX T))(hT:T.length<=1000000):
  Runs Tryz.prog lib 43 [x,.string ⟨a.toArray⟩] s fun v s' =>v= .bool (decide (a∈T))/\s' =s:=by
 refine Runs.enter 9 Tryz.func43 rfl hl rfl rfl ?_
 intro f hn hf
 have h0:f.get 0=x:=hf 0
 have h1:f.get 1= .string ⟨a.toArray⟩:=hf 1
 clear hf
 simp-implicitDefEqProofs(disch:=omega)only[ai,aj,ad,Nat.reduceLT,Nat.reduceEqDiff,↓reduceIte,hn,h0,h1]
 refine(JP I4 s x a T hx hT).mono ?_
 rintro _ s2 ⟨⟨r,rfl,hr⟩,df⟩
 subst df
 by_cases c1:a∈T
 ·have c2:0<=r:=hr.mpr c1
  rw[decide_eq_true c1]
  simp-implicitDefEqProofs(disch:=omega)only[ai,al,oneOf,Nat.reduceLT,↓reduceIte,hn,eq_true c2,Tryz.results43]
 ·have c2:¬0<=r:=fun e=>c1 (hr.mp e)
  rw[decide_eq_false c1]
  simp-implicitDefEqProofs(disch:=omega)only[ai,al,oneOf,Nat.reduceLT,↓reduceIte,hn,eq_false c2,Tryz.results43]
end Go.Proofs.YtdfjfncifneocaaGreat
namespace Go.Cl.Pr
def km (a b:Int):Int:=if b-a>a-b then b-a else a-b
def eL (a b c:Int):Int:=if km (a+b-c) a<=km (a+b-c) b/\km (a+b-c) a<=km (a+b-c) c then a else if km (a+b-c) b<=km (a+b-c) c then b else c
def gi (tag a b c:Int):Int:=if tag=1 then a else if tag=2 then b else if tag=3 then(a+b)/2 else if tag=4 then eL a b c else 0
def pf (z:Int):UInt8:=UInt8.ofNat (z%256).toNat
theorem sV (z:Int):((pf z).toNat:Int)=z%256:=by
 have:(pf z).toNat=(z%256).toNat%256:=UInt8.toNat_ofNat'
 rw[this];omega
def lu (l:List UInt8)(n c i:Nat):Int:=if c<=i%n then(((l.getD (i-c) 0).toNat:Nat):Int) else 0
def iZ (l:List UInt8)(n i:Nat):Int:=if n<=i then(((l.getD (i-n) 0).toNat:Nat):Int) else 0
def fC (l:List UInt8)(n c i:Nat):Int:=if n<=i/\c<=i%n then(((l.getD (i-n-c) 0).toNat:Nat):Int) else 0
theorem qD (x:UInt8):(0:Int)<=((x.toNat:Nat):Int)/\((x.toNat:Nat):Int)<=255:=by have:=x.toNat_lt;omega
theorem PY (l:List UInt8)(n c i:Nat):0<=lu l n c i/\lu l n c i<=255:=by
 unfold lu;split
 ·exact qD _
 ·omega
theorem Nn (l:List UInt8)(n i:Nat):0<=iZ l n i/\iZ l n i<=255:=by
 unfold iZ;split
 ·exact qD _
 ·omega
theorem JQ (l:List UInt8)(n c i:Nat):0<=fC l n c i/\fC l n c i<=255:=by
 unfold fC;split
 ·exact qD _
 ·omega
def gs (tag:Int)(l:List UInt8)(n c i:Nat):Int:=gi tag (lu l n c i) (iZ l n i) (fC l n c i)
def Hu (T:Int)(g:Bool)(n i:Nat):List UInt8:=if g=true/\i%n=0 then [pf T] else []
def mX (T:Int)(g:Bool)(l:List UInt8)(n c m:Nat):List UInt8:=(List.range m).flatMap fun i=>Hu T g n i++[pf ((((l.getD i 0).toNat:Nat):Int)-gs T l n c i)]
theorem xu (T:Int)(g:Bool)(l:List UInt8)(n c m:Nat):mX T g l n c (m+1)=mX T g l n c m++Hu T g n m++[pf ((((l.getD m 0).toNat:Nat):Int)-gs T l n c m)]:=by
 unfold mX
 rw[List.range_succ,List.flatMap_append]
 simp
theorem JR (T:Int)(g:Bool)(n i:Nat):(Hu T g n i).length<=1:=by unfold Hu;split<;>simp
theorem vH (T:Int)(g:Bool)(l:List UInt8)(n c m:Nat):(mX T g l n c m).length<=2*m:=by
 induction m with
 |zero=>simp[mX]
 |succ m ih=>
  rw[xu,List.length_append,List.length_append]
  have:=JR T g n m
  simp;omega
def qO (p co cl:Int):Prop:=(p=1\/p=2\/(10<=p/\p<=15))/\1<=co/\co<=4/\1<=cl/\cl<=4096
instance (p co cl:Int):Decidable (qO p co cl):=by unfold qO;infer_instance
def mY (p:Int):Int:=if p=15 then 2 else if 10<=p then p-10 else 1
def fE (p co cl:Int)(l:List UInt8):List UInt8×Int:=
 if¬qO p co cl then([],1) else if p=1 then(l,0) else if l.length%(co.toNat*cl.toNat)≠0 then([],4) else(mX (mY p) (decide (10<=p)) l (co.toNat*cl.toNat) co.toNat l.length,0)
theorem Bs (p co cl:Int)(l:List UInt8):(fE p co cl l).1.length<=2*l.length:=by
 unfold fE
 split
 ·simp
 ·split
  ·show l.length<=_;omega
  ·split
   ·simp
   ·exact vH ..
def qP (l:List UInt8)(n r:Nat):List UInt8:=(l.drop (r*n)).take n
theorem rT {l:List UInt8}{n r:Nat}(h:(r+1)*n<=l.length):(qP l n r).length=n:=by
 have:r*n+n<=l.length:=by rw[Nat.succ_mul] at h;exact h
 unfold qP;rw[List.length_take,List.length_drop];omega
theorem sW {l:List UInt8}{n r k:Nat}(hk:k<n):(qP l n r).getD k 0=l.getD (r*n+k) 0:=by
 unfold qP
 rw[List.getD_eq_getElem?_getD,List.getD_eq_getElem?_getD,List.getElem?_take_of_lt hk,List.getElem?_drop]
def rU (l:List UInt8)(n m:Nat):List (List UInt8):=(List.range m).map (qP l n)
theorem FJ (l:List UInt8)(n m:Nat):(rU l n m).length=m:=by simp[rU]
theorem Np {l:List UInt8}{n m r:Nat}(h:r<(rU l n m).length):(rU l n m)[r]=qP l n r:=by simp[rU]
theorem JS (l:List UInt8)(n m:Nat):rU l n (m+1)=rU l n m++[qP l n m]:=by simp[rU,List.range_succ]
theorem PZ {n r k:Nat}(hk:k<n):(r*n+k)%n=k:=by rw[Nat.mul_comm,Nat.mul_add_mod,Nat.mod_eq_of_lt hk]
def rV (T:Int)(g:Bool)(l:List UInt8)(n c r k:Nat):List UInt8:=if k=0 then mX T g l n c (r*n)++Hu T g n (r*n) else mX T g l n c (r*n+k)
theorem Nq {T:Int}{g:Bool}{l:List UInt8}{n c r k:Nat}(hk:k<n):rV T g l n c r k++[pf ((((l.getD (r*n+k) 0).toNat:Nat):Int)-gs T l n c (r*n+k))]=rV T g l n c r (k+1):=by
 unfold rV
 rw[if_neg (by omega:¬k+1=0),<-Nat.add_assoc,xu]
 by_cases h:k=0
 ·subst h;rw[if_pos rfl,Nat.add_zero]
 ·rw[if_neg h]
  have:Hu T g n (r*n+k)=[]:=by
   unfold Hu;rw[if_neg];rintro ⟨_,h2⟩;rw[PZ hk] at h2;exact h h2
  rw[this,List.append_nil]
theorem P0 {T:Int}{g:Bool}{l:List UInt8}{n c r:Nat}(hn:0<n):rV T g l n c r n=mX T g l n c ((r+1)*n):=by
 unfold rV;rw[if_neg (by omega),Nat.succ_mul]
theorem S9 (T:Int)(g:Bool)(l:List UInt8)(n c r k:Nat):(rV T g l n c r k).length<=2*(r*n+k)+1:=by
 unfold rV
 split
 ·rw[List.length_append]
  have:=vH T g l n c (r*n)
  have:=JR T g n (r*n)
  omega
 ·have:=vH T g l n c (r*n+k)
  omega
end Go.Cl.Pr
namespace Go.Cl
section
variable {P:Program} {lib:ay} {all:List Oper}
theorem Bt:∀(r1 r2:List Oper) (f:aR) (s:aq) (Q:aR->aq->Prop),jE P lib all r1 f s (fun f s=>jE P lib all r2 f s Q)->jE P lib all (r1++r2) f s Q
 |[],r2,f,s,Q,h=>by rw[vl] at h;exact h
 |o::r1,r2,f,s,Q,h=>by
  have gr:∀(d:Option Tmp) (v:Value) (s' :aq),cO f d v (fun f' =>jE P lib all r1 f' s' (fun f s=>jE P lib all r2 f s Q))->cO f d v (fun f' =>jE P lib all (r1++r2) f' s' Q):=fun d v s' =>by
   unfold cO
   split
   ·exact Bt r1 r2 _ _ Q
   ·exact id
  rw[List.cons_append,mD]
  rw[mD] at h
  revert h
  cases b9 all o f with
  |true=>
   rw[jF,jF]
   unfold er
   split
   ·exact gr _ _ _
   ·exact fun h=>h.mono (fun v s' =>gr _ _ _)
   ·exact id
  |false=>exact gr _ _ _
theorem Hv {r:List Oper}{o:Oper}{f:aR}{s:aq}{Q:aR->aq->Prop}{b:Bool}(n:Nat)(J:aR->aq->Prop)(h1:∀Q' :aR->aq->Prop,(∀f' s',J f' s' ->Q' f' s')->rG P lib all o (r.take n) f s Q' b)(h2:∀f' s',J f' s' ->jE P lib all (r.drop n) f' s' Q):rG P lib all o r f s Q b:=by
 have h:=h1 _ h2
 have gr:∀(d:Option Tmp) (v:Value) (s' :aq),cO f d v (fun f' =>jE P lib all (r.take n) f' s' (fun f s=>jE P lib all (r.drop n) f s Q))->cO f d v (fun f' =>jE P lib all r f' s' Q):=fun d v s' =>by
  unfold cO
  split
  ·intro h
   have:=Bt (r.take n) (r.drop n) _ _ Q h
   rwa [List.take_append_drop] at this
  ·exact id
 revert h
 cases b with
 |true=>
  rw[jF,jF]
  unfold er
  split
  ·exact gr _ _ _
  ·exact fun h=>h.mono (fun v s' =>gr _ _ _)
  ·exact id
 |false=>exact gr _ _ _
end
theorem JT {P:Program}{lib:ay}{all r:List Oper}{o:Oper}{f:aR}{s:aq}{Q:aR->aq->Prop}{b:Bool}(J:aR->aq->Prop)(h1:∀Q' :aR->aq->Prop,(∀f' s',J f' s' ->Q' f' s')->rG P lib all o r f s Q' b)(h2:∀f' s',J f' s' ->Q f' s'):rG P lib all o r f s Q b:=h1 Q h2
end Go.Cl
