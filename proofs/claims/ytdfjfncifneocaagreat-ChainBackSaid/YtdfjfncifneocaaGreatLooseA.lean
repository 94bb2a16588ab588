/-
 The clean machine, part 22: rules for what makes memory and what writes it.
-/
import Derived.Test.YtdfjfncifneocaaGreatDraw
import Derived.Test.YtdfjfncifneocaaGreatProg
import Derived.KernelRfl
open And renaming intro->ab
open Go renaming Value->an,TypeId->aE,Program->aR,Operand->a8,Oper->cg,IntKind->cp
open _root_ renaming reduceIte->ao,List->av,UInt8->a0,Nat->a4,Option->a9,Bool->bg,Int->b5,if_true->cm,not_true_eq_false->c4,not_false_eq_true->c5,if_pos->c7,decide_eq_false->dc,decide_eq_true->dE,if_neg->ed,true_and->ep,Array->eu
open List renaming getElem?_eq_getElem->a1,take_succ_eq_append_getElem->a3,eq_nil_of_length_eq_zero->a7,length_singleton->bb,getD_eq_getElem?_getD->bl,set_eq_take_append_cons_drop->bo,take_of_length_le->bz,drop_succ_cons->b7,length_append->cb,cons_append->cd,getD_cons_zero->cx,getD_cons_succ->cz,set_cons_zero->cB,set_cons_succ->c0,nil_append->c9,range_succ->dd,replicate->ds,drop_zero->dD,getD->eb,range->et
open Go.Proofs.Tryz renaming prog->a2,underlying22->a6,results18->cv,underlying27->c6,results78->dO,results43->dT
open Nat renaming le_refl->a5,ble->bn,blt_eq->b4,lt_of_lt_of_le->ca,beq->cc,le_trans->c3,ble_eq->dt,blt->eg,zero_add->eh,succ_mul->eo
open Int renaming toNat_natCast->bq,natCast_inj->c8,ofNat->ec,ofNat_lt->ek,ofNat_le->en
open Bool renaming and_eq_true->bC,false_eq_true->cA,false_and->dv,and_false->dx,not_false->dC,and_true->dU,true_and->dX,not_true->dY,false_or->ea
open Nat renaming reduceLT->QS,reduceEqDiff->Qx
set_option linter.unusedSimpArgs false
set_option linter.unusedVariables false
set_option maxRecDepth 100000
namespace Go.Cl
section
variable {P:aR} {lib:aA} {all r:av cg} {f:aW} {s:aq} {d:a9 Tmp} {Q:aW->aq->Prop}
theorem aQ {cs:av an}{n z:a4}(h:cs.length=n*z)(K:∀v s',Own s' z v n cs->aF s.next v->ar s.next s s' ->dW P lib all r f s d Q (some (.val v s'))):dW P lib all r f s d Q (oF (aZ s cs n z)):=by
 obtain⟨h1,h2⟩:=Own.new (s:=s) h
 rw[h1,ft]
 exact K _ _ h2 (fun i hi=>by injection hi with hi;subst hi;exact a5 _) (ar.new s _)
theorem bY {st xt e:aE}{xd:TypeDesc}{z oo:a4}{zv:an}(hu:P.underlying st=some (.slice e))(ZF:P.underlying xt=some xd)(Qc:(∃e2,xd= .slice e2)\/xd= .string)(cf:aX P e=some z)(sQ:eY P e=some oo)(uP:bV P e=some zv)(oK:cc zv.cells.toList.length z=true)
  {x y:an} {n m:a4} {l new:av an} (hx:Own s z x n l) (hy:dV s z y=some (m,new)) (mA:new.length=m*z) (wC:0<z) (dH:new.all aL=true) (gL:(n+m)*oo<=140737488355328) (dI:n+m<=140737488355328) {base:a4} (hF:aF base x) (hB:base<=s.next)
  (K:∀x' s',Own s' z x' (n+m) (l++new)->aF base x' ->ar base s s' ->bt x s s' ->(aI x' =aI x\/∃i,aI x' =some i/\s.next<=i)->dW P lib all r f s d Q (some (.val x' s'))):dW P lib all r f s d Q (oF (gW P s st xt x y)):=by
 obtain⟨x',s',h1,h2,h3,h4⟩:=Own.append hu ZF Qc cf sQ uP oK hx hy mA wC dH gL dI
 rw[h1,ft]
 refine K _ _ h2 (fun i hi=> ?_) (h3.keeps hF hB) h3 h4
 rcases h4 with h4|⟨j,hj,hl⟩
 ·exact hF i (by rw[<-h4];exact hi)
 ·rw[hj] at hi;injection hi with hi;omega
theorem bG {st e:aE}{z oo:a4}{zv:an}(hu:P.underlying st=some (.slice e))(cf:aX P e=some z)(sQ:eY P e=some oo)(uP:bV P e=some zv)(oK:cc zv.cells.toList.length z=true)
  {x:an} {n m:a4} {l new:av an} {a b:Tmp} {ty:aE} {ps:String} {af:eu Edge} (hx:Own s z x n l) (Ba:f.get a=x) (Iu:b≠a) (ha:a<f.n) (hb:b<f.n) (mA:new.length=m*z) (wC:0<z) (dH:new.all aL=true) (gL:(n+m)*oo<=140737488355328) (dI:n+m<=140737488355328) {base:a4} (hF:aF base x) (hB:base<=s.next)
  (K:∀bs x' s',Own s' z x' (n+m) (l++new)->aF base x' ->ar base s s' ->bt x s s' ->(aI x' =aI x\/∃i,aI x' =some i/\s.next<=i)->dW P lib all r (f.put b bs) s' d Q (some (.val x' s'))):
  dW P lib all (⟨d,.call ⟨.builtin .append, #[.tmp a,.tmp b], #[st,st]⟩,ty,ps,af,none⟩::r) f s (some b) Q (oF (aZ s new m z)):=by
 refine aQ mA fun bs s1 h1 h2 h3=> ?_
 have nk:=hx.keeps h3
 obtain⟨x',s',g1,g2,g3,g4⟩:=Own.append hu hu (.inl ⟨e,rfl⟩) cf sQ uP oK nk h1.aG.src mA wC dH gL dI
 have g4' :aI x' =aI x\/∃i,aI x' =some i/\s.next<=i:=g4.imp id (fun⟨i,a,b⟩=>⟨i,a,c3 h3.next b⟩)
 have g3' :bt x s s' :=⟨c3 h3.next g3.next,fun i hi cH=>(g3.get i (ca hi h3.next) cH).trans (h3.get i hi)⟩
 have ze:aF base x' :=fun i hi=>by
  rcases g4' with h4|⟨j,hj,hl⟩
  ·exact hF i (by rw[<-h4];exact hi)
  ·rw[hj] at hi;injection hi with hi;omega
 have k:=K bs x' s' g2 ze (g3'.keeps hF hB) g3' g4'
 have e1:aa (f.put b bs) [.tmp a,.tmp b]=some [x,bs]:=by
  simp only[aa,yY,ag,ha,hb,cm,ad,Ba,ed Iu]
 have e2:cS P ⟨d,.call ⟨.builtin .append, #[.tmp a,.tmp b], #[st,st]⟩,ty,ps,af,none⟩ (f.put b bs) s1=some (.val x' s'):=by
  rw[iP,e1]
  simp only[builtin_append,g1,ft]
 rw[yW,c7 hb,ub,th,vD,e2]
 exact k
theorem gG {t e:aE}{k:cp}{a:b5}(hu:P.underlying t=some (.slice e))(cf:aX P e=some 1)(hz:bV P e=some (.int k 0)):aO P s t 1 [(0,.int k a)]=aZ s [.int k a] 1 1:=by
 unfold aO;rw[hu];simp only[cf,hz];rfl
theorem ZJ {t e:aE}{zv v:an}(hu:P.underlying t=some (.slice e))(cf:aX P e=some 1)(hz:bV P e=some zv)(ph:bN zv=true)(oK:∃w,zv.cells.toList=[w])(hv:v.cells.toList=[v]):aO P s t 1 [(0,v)]=aZ s [v] 1 1:=by
 obtain⟨w,hw⟩:=oK
 unfold aO;rw[hu];simp only[cf,hz,ph,hw,bB,fG,hv,bb];rfl
theorem ZK {t e:aE}{zv v u:an}(hu:P.underlying t=some (.slice e))(cf:aX P e=some 1)(hz:bV P e=some zv)(ph:bN zv=true)(oK:∃w,zv.cells.toList=[w])(hv:v.cells.toList=[v])(J4:u.cells.toList=[u]):aO P s t 2 [(0,v),(1,u)]=aZ s [v,u] 2 1:=by
 obtain⟨w,hw⟩:=oK
 unfold aO;rw[hu];simp only[cf,hz,ph,hw,bB,fG,hv,J4,bb];rfl
theorem I1 {t e:aE}{k:cp}{a b:b5}(hu:P.underlying t=some (.slice e))(cf:aX P e=some 1)(hz:bV P e=some (.int k 0)):aO P s t 2 [(0,.int k a),(1,.int k b)]=aZ s [.int k a,.int k b] 2 1:=by
 unfold aO;rw[hu];simp only[cf,hz];rfl
theorem N7 {t e:aE}{k:cp}{a b c d:b5}(hu:P.underlying t=some (.slice e))(cf:aX P e=some 1)(hz:bV P e=some (.int k 0)):aO P s t 4 [(0,.int k a),(1,.int k b),(2,.int k c),(3,.int k d)]=aZ s [.int k a,.int k b,.int k c,.int k d] 4 1:=by
 unfold aO;rw[hu];simp only[cf,hz];rfl
theorem VI {t e:aE}{k:cp}{a b c d g:b5}(hu:P.underlying t=some (.slice e))(cf:aX P e=some 1)(hz:bV P e=some (.int k 0)):aO P s t 5 [(0,.int k a),(1,.int k b),(2,.int k c),(3,.int k d),(4,.int k g)]=aZ s [.int k a,.int k b,.int k c,.int k d,.int k g] 5 1:=by
 unfold aO;rw[hu];simp only[cf,hz];rfl
end
structure ax (s:aq) (i:a4) (cs:av an):Prop where
 lt:i<s.next
 dZ:∃low z,s.bR i=some ⟨cs,low,true,z⟩/\low<=cs.length+1
theorem ax.keeps {s s' :aq}{i:a4}{cs:av an}(h:ax s i cs)(k:ar s.next s s'):ax s' i cs:=
 ⟨ca h.lt k.next,by obtain⟨low,z,h1,h2⟩:=h.dZ;exact⟨low,z,(k.dZ h.lt).trans h1,h2⟩⟩
theorem ax.turns {s s' :aq}{i:a4}{cs:av an}{v:an}(h:ax s i cs)(k:bt v s s')(cH:aI v≠some i):ax s' i cs:=
 ⟨ca h.lt k.next,by
  obtain⟨low,z,h1,h2⟩:=h.dZ
  refine⟨low,z,?_,h2⟩
  simp only[aq.bR,k.get i h.lt cH];exact h1⟩
theorem ax.load {P:aR}{e:aE}(ow:bX P e=some false){s:aq}{i:a4}{cs:av an}(h:ax s i cs){off c:a4}(hc:c=cs.length+1)(ho:off<cs.length):aJ P s e (.pointer (some ⟨i,off,some c⟩))=some (cs.getD off undef):=by
 obtain⟨low,z,h1,h2⟩:=h.dZ
 subst hc
 unfold aJ
 simp only[ow]
 rw[gF h1 h2 (a5 _) (by omega)]
 have:(cs.drop off).take 1=[cs.getD off undef]:=by
  rw[List.take_one,List.head?_drop,a1 (by omega)]
  simp[eb,a1 (show off<cs.length by omega)]
 simp only[this]
theorem ax.bF {P:aR}{e:aE}(ow:bX P e=some true){s:aq}{i:a4}{cs:av an}(cf:aX P e=some cs.length)(h:ax s i cs){c:a4}(hc:c=cs.length+1):aJ P s e (.pointer (some ⟨i,0,some c⟩))=some (.agg cs.toArray):=by
 obtain⟨low,z,h1,h2⟩:=h.dZ
 subst hc
 unfold aJ
 simp only[ow,cf]
 rw[gF h1 h2 (a5 _) (by omega)]
 simp
theorem jy:∀(l:av an) (off:a4) (vs:av an),off+vs.length<=l.length->setAt l off vs=some (l.take off++vs++l.drop (off+vs.length)):=by
 intro l
 induction l with
 |nil=>intro off vs h;cases vs with
  |nil=>simp at h;subst h;simp[setAt]
  |cons v r=>simp at h
 |cons c r ih=>
  intro off vs h
  cases off with
  |zero=>
   cases vs with
   |nil=>simp[setAt]
   |cons v vs=>
    simp only[setAt]
    rw[ih 0 vs (by simpa using h)]
    simp
  |succ n=>
   cases vs with
   |nil=>simp[setAt]
   |cons v vs=>
    simp only[setAt]
    rw[ih n (v::vs) (by simp at h|-;omega)]
    simp only[List.length_cons,List.take_succ_cons,cd,show n+1+(vs.length+1)=(n+(vs.length+1))+1 by omega,b7]
theorem ax.store {P:aR}{e:aE}(cf:aX P e=some 1){s:aq}{i:a4}{cs:av an}(h:ax s i cs){off c:a4}(hc:c=cs.length+1)(ho:off<cs.length){v:an}(hv:aL v=true):
  ∃s',dR P s e (.pointer (some ⟨i,off,some c⟩)) v=some s' /\ax s' i (cs.set off v)/\(s'.next=s.next/\∀j,j≠i->s'.heap.get j=s.heap.get j):=by
 obtain⟨low,z,h1,h2⟩:=h.dZ
 subst hc
 have mB:v.cells.toList=[v]:=by cases v<;>first|rfl|cases hv
 refine⟨s.put i (.dZ ⟨cs.set off v,cs.length+1,true,z⟩),?_,⟨h.lt,cs.length+1,z,?_,by simp⟩,rfl,fun j hj=>aq.bP _ _ _ _ (Ne.symm hj)⟩
 ·unfold dR
  simp only[cf,mB,bb]
  unfold aq.storeAt
  have zf:setAt cs off [v]=some (cs.set off v):=by
   rw[jy _ _ _ (by simp;omega)]
   rw[bo,c7 ho]
   simp
  have iy:(true&&bn low (cs.length+1)&&cc (cs.length+1) (cs.length+1)&&[v].all aL)=true:=by
   simp[h2,hv]
  simp only[h1,iy,cm,zf]
  rfl
 ·exact aq.ck _ _ _ (by omega)
section
variable {P:aR} {lib:aA} {all r:av cg} {f:aW} {s:aq} {d:a9 Tmp} {Q:aW->aq->Prop}
theorem aY {e:aE}(cf:aX P e=some 1){i:a4}{cs:av an}(h:ax s i cs){off c:a4}(hc:c=cs.length+1)(ho:off<cs.length){v:an}(hv:aL v=true)
  (K:∀s',ax s' i (cs.set off v)->s'.next=s.next->(∀j,j≠i->s'.heap.get j=s.heap.get j)->dW P lib all r f s d Q (some (.val undef s'))):dW P lib all r f s d Q (BN (dR P s e (.pointer (some ⟨i,off,some c⟩)) v)):=by
 obtain⟨s',h1,h2,h3,h4⟩:=h.store cf hc ho hv
 rw[h1,iC]
 exact K s' h2 h3 h4
theorem aw {cs:av an}{z:a4}(K:∀s',ax s' s.next cs->ar s.next s s' ->s'.next=s.next+1->dW P lib all r f s d Q (some (.val (.pointer (some ⟨s.next,0,some (cs.length+1)⟩)) s'))):dW P lib all r f s d Q (oF (fm s cs z)):=by
 have:fm s cs z=some (.pointer (some ⟨s.next,0,some (cs.length+1)⟩),s.new (.dZ ⟨cs,1,true,z⟩)):=by simp[fm,aq.room]
 rw[this,ft]
 exact K _ ⟨by rw[xq];omega,1,z,oO _ _,by omega⟩ (ar.new _ _) rfl
end
theorem bt.aK {s s' :aq}{i o:a4}{c:a9 a4}(h1:s'.next=s.next)(h2:∀j,j≠i->s'.heap.get j=s.heap.get j):bt (.pointer (some ⟨i,o,c⟩)) s s' :=
 ⟨by omega,fun j _ hj=>h2 j (fun e=>hj (by rw[e];rfl))⟩
theorem ar.aK {s s' :aq}{i base:a4}(h1:s'.next=s.next)(h2:∀j,j≠i->s'.heap.get j=s.heap.get j)(hb:base<=i):ar base s s' :=
 ⟨by omega,fun j hj=>h2 j (by omega)⟩
theorem Own.aK {s s' :aq}{i:a4}(h1:s'.next=s.next)(h2:∀j,j≠i->s'.heap.get j=s.heap.get j){z:a4}{v:an}{n:a4}{l:av an}(h:Own s z v n l)(cH:aI v≠some i):Own s' z v n l:=
 h.turns (bt.aK (o:=0) (c:=none) h1 h2) (fun j hj e=>cH (by rw[hj];injection e with e;rw[<-e]))
theorem Own.put {P:aR}{e:aE}(cf:aX P e=some 1){s:aq}{v:an}{n:a4}{l:av an}(h:Own s 1 v n l){k:a4}(hk:k<n){w:an}(hw:aL w=true):
  ∃s',dR P s e (bc 1 v k) w=some s' /\Own s' 1 v n (l.set k w)/\bt v s s' :=by
 cases h with
 |nil=>omega
 |of i n low l hi hb hl hlen=>
  have eU:l.length=n:=by omega
  have Nq:ax s i l:=⟨hi,low,1,hb,hl⟩
  obtain⟨s',h1,h2,h3,h4⟩:=Nq.store cf (off:=k) (c:=l.length+1) rfl (by omega) hw
  have pL:s'.bR i=some ⟨l.set k w,l.length+1,true,1⟩:=by
   have mB:w.cells.toList=[w]:=by cases w<;>first|rfl|cases hw
   unfold dR at h1
   simp only[cf,mB,bb] at h1
   unfold aq.storeAt at h1
   have zf:setAt l k [w]=some (l.set k w):=by
    rw[jy _ _ _ (by simp;omega)]
    rw[bo,c7 (by omega)]
    simp
   have iy:(true&&bn low (l.length+1)&&cc (l.length+1) (l.length+1)&&[w].all aL)=true:=by
    simp[hl,hw]
   simp only[hb,iy,cm,zf] at h1
   have Zv:some (s.put i (.dZ ⟨l.set k w,l.length+1,true,1⟩))=some s' :=h1
   injection Zv with Zv
   rw[<-Zv];exact aq.ck _ _ _ (by omega)
  refine⟨s',?_,?_,⟨by omega,fun j _ hj=>h4 j (fun e=>hj (by rw[e];rfl))⟩⟩
  ·simpa [bc] using h1
  ·have:=Own.of (z:=1) i n (l.length+1) (l.set k w) h2.lt pL (by simp) (by simp[hlen])
   simpa using this
theorem mD {P:aR}{lib:aA}{all r:av cg}{f:aW}{s:aq}{d:a9 Tmp}{Q:aW->aq->Prop}{e:aE}(cf:aX P e=some 1){v:an}{n:a4}{l:av an}(h:Own s 1 v n l){k:a4}(hk:k<n){w:an}(hw:aL w=true)
  (K:∀s',Own s' 1 v n (l.set k w)->bt v s s' ->dW P lib all r f s d Q (some (.val undef s'))):dW P lib all r f s d Q (BN (dR P s e (bc 1 v k) w)):=by
 obtain⟨s',h1,h2,h3⟩:=h.put cf hk hw
 rw[h1,iC]
 exact K s' h2 h3
theorem KZ (v:an):∀n,bB [v] n=ds n v:=by
 intro n
 induction n with
 |zero=>rfl
 |succ n ih=>simp[bB,ih,List.replicate_succ]
theorem VJ {P:aR}{s:aq}{t e:aE}{k k1 k2:cp}{b8:a4}(hu:P.underlying t=some (.slice e))(cf:aX P e=some 1)(hz:bV P e=some (.int k 0))(hb:eY P e=some b8){n:a4}(hn:b8*n<=4294967296)(g9:n<=4294967296):
  ef P s t (.int k1 n) (.int k2 n)=aZ s (ds n (.int k 0)) n 1:=by
 show(match P.underlying t,Value.int k1 (ec n),Value.int k2 (ec n) with
 |some (.slice e),.int _ (.ofNat l),.int _ (.ofNat c)=>
  match aX P e,bV P e,eY P e with
  |some n,some z,some oo=>
   if bn l c&&bn c 4294967296&&bn (oo*c) 4294967296&&bN z&&cc z.cells.toList.length n then aZ s (bB z.cells.toList l) l n else none
  |_,_,_=>none
 |_,_,_=>none)=_
 rw[hu]
 simp only[cf,hz,hb]
 have hc:(bn n n&&bn n 4294967296&&bn (b8*n) 4294967296&&bN (.int k 0)&&cc (Value.int k 0).cells.toList.length 1)=true:=by
  simp only[bC,dt];exact⟨⟨⟨⟨a5 _,g9⟩,hn⟩,rfl⟩,rfl⟩
 rw[c7 hc]
 have:(Value.int k 0).cells.toList=[.int k 0]:=rfl
 rw[this,KZ]
section
variable {P:aR} {lib:aA} {all r:av cg} {id:a4} {f:aW} {T:aq} {d:a9 Tmp} {Q:aW->aq->Prop}
theorem VK (v:an)(b:jZ):Da P lib all r id f T d Q (some (v,b))=tm P lib all r (id+1) f d Q v (T.put id (.dZ b)):=rfl
theorem iE {cs:av an}{n z base:a4}(h:cs.length=n*z)(gz:id<T.next)(hb:base<=id)
  (K:∀v T',Own T' z v n cs->aI v=some id->ar base T T' ->T'.next=T.next->(∀j,j≠id->T'.heap.get j=T.heap.get j)->tm P lib all r (id+1) f d Q v T'):Da P lib all r id f T d Q (fD id (oF (aZ ⟨.nil,id⟩ cs n z))):=by
 have e:fD id (oF (aZ ⟨.nil,id⟩ cs n z))=some (.slice (some ⟨id,0,none⟩) n (cs.length+1),⟨cs,1,true,z⟩):=by
  have:aZ ⟨.nil,id⟩ cs n z=some (.slice (some ⟨id,0,none⟩) n (cs.length+1),(⟨.nil,id⟩:aq).new (.dZ ⟨cs,1,true,z⟩)):=by simp[aZ,aq.room]
  rw[this,ft]
  have hb:((⟨.nil,id⟩:aq).new (.dZ ⟨cs,1,true,z⟩)).bR id=some ⟨cs,1,true,z⟩:=oO ⟨.nil,id⟩ _
  simp only[fD,hb]
 rw[e,VK]
 have ND:∀j,j≠id->(T.put id (.dZ ⟨cs,1,true,z⟩)).heap.get j=T.heap.get j:=fun j hj=>aq.bP _ _ _ _ (Ne.symm hj)
 refine K _ _ (.of id n 1 cs (by simpa [aq.put] using gz) (aq.ck _ _ _ (by omega)) (by omega) h) rfl ⟨a5 _,fun j hj=>ND j (by omega)⟩ rfl ND
theorem kH {st xt e:aE}{xd:TypeDesc}{z oo:a4}{zv:an}(hu:P.underlying st=some (.slice e))(ZF:P.underlying xt=some xd)(Qc:(∃e2,xd= .slice e2)\/xd= .string)(cf:aX P e=some z)(sQ:eY P e=some oo)(uP:bV P e=some zv)(oK:cc zv.cells.toList.length z=true)
  {x y:an} {n m:a4} {l new:av an} (hx:Own T z x n l) (hy:dV T z y=some (m,new)) (mA:new.length=m*z) (wC:0<z) (dH:new.all aL=true) (gL:(n+m)*oo<=140737488355328) (dI:n+m<=140737488355328) {base:a4} (hF:aF base x) (hB:base<=T.next)
  (K:∀x' T',Own T' z x' (n+m) (l++new)->aF base x' ->ar base T T' ->bt x T T' ->(aI x' =aI x\/∃i,aI x' =some i/\T.next<=i)->tm P lib all r id f d Q x' T'):qa P lib all r id f d T Q (oF (gW P T st xt x y)):=by
 obtain⟨x',s',h1,h2,h3,h4⟩:=Own.append hu ZF Qc cf sQ uP oK hx hy mA wC dH gL dI
 rw[h1,ft]
 refine K _ _ h2 (fun i hi=> ?_) (h3.keeps hF hB) h3 h4
 rcases h4 with h4|⟨j,hj,hl⟩
 ·exact hF i (by rw[<-h4];exact hi)
 ·rw[hj] at hi;injection hi with hi;omega
end
def pC (v:an):an:=
 match v with
 | .slice (some ⟨i,off,none⟩) _ c=> .pointer (some ⟨i,off,some c⟩)
 |_=> .pointer none
theorem xz {P:aR}{lib:aA}{all r:av cg}{f:aW}{s:aq}{d:a9 Tmp}{Q:aW->aq->Prop}{cs:av an}{n:a4}(h:cs.length=n)(K:∀v s',Own s' 1 v n cs->aF s.next v->ar s.next s s' ->dW P lib all r f s d Q (some (.val (pC v) s'))):dW P lib all r f s d Q (oF (fm s cs 1)):=by
 obtain⟨h1,h2⟩:=Own.new (s:=s) (cs:=cs) (n:=n) (z:=1) (by omega)
 have:fm s cs 1=some (.pointer (some ⟨s.next,0,some (cs.length+1)⟩),s.new (.dZ ⟨cs,1,true,1⟩)):=by simp[fm,aq.room]
 rw[this,ft]
 exact K _ _ h2 (fun i hi=>by injection hi with hi;subst hi;exact a5 _) (ar.new s _)
theorem Own.K4 {P:aR}{t e:aE}{m:a4}(hu:P.underlying t=some (.array m e))(cf:aX P e=some 1){s:aq}{v:an}{l:av an}(h:Own s 1 v m l){k:cp}{x:b5}(h0:0<=x)(hx:x<m):
  bT P t (pC v) (.int k x)=some (bc 1 v x.toNat):=by
 obtain⟨y,rfl⟩:∃y:a4,x=y:=⟨x.toNat,by omega⟩
 have hy:y<m:=by omega
 have dI:eg y m=true:=by simpa [b4] using hy
 show bT P t (pC v) (.int k (ec y))=_
 cases h with
 |nil=>omega
 |of i n low l hi hb hl hlen=>
  unfold bT;rw[hu]
  simp only[pC,cf,dI,cm,bc,bq]
theorem Own.K5 {P:aR}{t e:aE}{m:a4}(hu:P.underlying t=some (.array m e))(cf:aX P e=some 1){s:aq}{v:an}{l:av an}(hm:0<m)(h:Own s 1 v m l){k:cp}{y:b5}(h0:0<=y)(hy:y<=m):
  dj P s t (pC v) none (some (.int k y)) none=some (dJ 1 v 0 y.toNat):=by
 cases h with
 |nil=>omega
 |of i n low l hi hb hl hlen=>
  have e1:gV (some (.int k y)) m=some y.toNat:=p8 h0
  have hc:(bn 0 y.toNat&&bn y.toNat m&&bn low (l.length+1)&&bn (l.length+1) (l.length+1)&&eg (0+m*1) (l.length+1)&&cc 1 1&&eg 0 1)=true:=by
   simp only[bC,dt,b4,Nat.beq_eq]
   have h1:y.toNat<=m:=by omega
   have h2:m=l.length:=by omega
   exact⟨⟨⟨⟨⟨⟨Nat.zero_le _,h1⟩,hl⟩,a5 _⟩,by omega⟩,by trivial⟩,by omega⟩
  unfold dj;rw[hu]
  simp only[pC,fR,e1,cf,hb,hc,cm,dJ]
theorem aj:type_of%
 (ab (ab (ab (ab (ab (ab (ab @Cz @w9) (ab @CA (ab @CB
 @GF))) (ab (ab @xe (ab @GG @CC)) (ab @vF (ab @CD @KN)))) (ab
 (ab (ab @GH (ab @z5 @z6)) (ab @KO (ab @GI @CE))) (ab (ab
 @CF (ab @z8 @GJ)) (ab @Cu (ab @ub @vD))))) (ab (ab (ab (ab
 @eV @yW) (ab @ta (ab @Cv @Cw))) (ab (ab @Cx (ab @vE @tc))
 (ab @Cy (ab @pY @pW)))) (ab (ab (ab @pX (ab @GC @zb))
 (ab @vI (ab @GW @qb))) (ab (ab @qc (ab @GX @GY)) (ab
 @tn (ab @Db @Dc)))))) (ab (ab (ab (ab (ab @Dd @CV) (ab
 @pZ (ab @Ag @Ah))) (ab (ab @GQ (ab @Ai @rS)) (ab @xk
 (ab @CW @GR)))) (ab (ab (ab @GS (ab @p5 @Aj)) (ab @GU (ab
 @Ak @rT))) (ab (ab @CX (ab @uZ @CY)) (ab @xm (ab @CZ
 @C0))))) (ab (ab (ab (ab @tj (ab @Al @C1)) (ab @rU (ab
 @Am @rV))) (ab (ab @An (ab @Ao @u0)) (ab @dv (ab
 @dx @CG)))) (ab (ab (ab @z9 (ab @GK @xo)) (ab @xp (ab @KQ
 @CM))) (ab (ab @CN (ab @GM @Qn)) (ab @yZ (ab @td @CO))))))) (ab
 (ab (ab (ab (ab (ab @GN @qR) (ab @y5 (ab @CP @te))) (ab (ab
 @Aa (ab @uU @y6)) (ab @py (ab @y7 @pz)))) (ab (ab (ab
 @y8 (ab @CQ @uW)) (ab @tf (ab @tg @iP))) (ab (ab @th
 (ab @Ab @GO)) (ab @xg (ab @ad @ag))))) (ab (ab (ab (ab @yY @CH)
 (ab @GL (ab @xf @CI))) (ab (ab @CJ (ab @CK @CL)) (ab @bS
 (ab @xh @ft)))) (ab (ab (ab @iC (ab @builtin_len @builtin_append)) (ab @builtin_copy (ab
 @builtin_min @builtin_max))) (ab (ab @Qo (ab @Qp @Qq)) (ab @IM (ab @dS @Qs)))))) (ab
 (ab (ab (ab (ab @Qt @Qu) (ab @Qv (ab @VA @VB))) (ab (ab @C2 (ab
 @cF @kG)) (ab @lU (ab @oN @dk)))) (ab (ab (ab @C3 (ab
 @xi @uX)) (ab @CR (ab @xj @CS))) (ab (ab @CT (ab @Ac
 @CU)) (ab @rQ (ab @Ad @GP))))) (ab (ab (ab (ab @rR (ab
 @Ae @Af)) (ab @ti (ab @uY @u5))) (ab (ab @fR (ab @eh
 @ep)) (ab @and_true (ab @and_self @dU)))) (ab (ab (ab @dX (ab @decide_true @decide_false))
 (ab @cA (ab @beq_true @beq_false))) (ab (ab @dY (ab @dC @bq)) (ab
 @ek (ab @en @c8)))))))):=
 (ab (ab (ab (ab (ab (ab (ab @Cz @w9) (ab @CA (ab @CB
 @GF))) (ab (ab @xe (ab @GG @CC)) (ab @vF (ab @CD @KN)))) (ab
 (ab (ab @GH (ab @z5 @z6)) (ab @KO (ab @GI @CE))) (ab (ab
 @CF (ab @z8 @GJ)) (ab @Cu (ab @ub @vD))))) (ab (ab (ab (ab
 @eV @yW) (ab @ta (ab @Cv @Cw))) (ab (ab @Cx (ab @vE @tc))
 (ab @Cy (ab @pY @pW)))) (ab (ab (ab @pX (ab @GC @zb))
 (ab @vI (ab @GW @qb))) (ab (ab @qc (ab @GX @GY)) (ab
 @tn (ab @Db @Dc)))))) (ab (ab (ab (ab (ab @Dd @CV) (ab
 @pZ (ab @Ag @Ah))) (ab (ab @GQ (ab @Ai @rS)) (ab @xk
 (ab @CW @GR)))) (ab (ab (ab @GS (ab @p5 @Aj)) (ab @GU (ab
 @Ak @rT))) (ab (ab @CX (ab @uZ @CY)) (ab @xm (ab @CZ
 @C0))))) (ab (ab (ab (ab @tj (ab @Al @C1)) (ab @rU (ab
 @Am @rV))) (ab (ab @An (ab @Ao @u0)) (ab @dv (ab
 @dx @CG)))) (ab (ab (ab @z9 (ab @GK @xo)) (ab @xp (ab @KQ
 @CM))) (ab (ab @CN (ab @GM @Qn)) (ab @yZ (ab @td @CO))))))) (ab
 (ab (ab (ab (ab (ab @GN @qR) (ab @y5 (ab @CP @te))) (ab (ab
 @Aa (ab @uU @y6)) (ab @py (ab @y7 @pz)))) (ab (ab (ab
 @y8 (ab @CQ @uW)) (ab @tf (ab @tg @iP))) (ab (ab @th
 (ab @Ab @GO)) (ab @xg (ab @ad @ag))))) (ab (ab (ab (ab @yY @CH)
 (ab @GL (ab @xf @CI))) (ab (ab @CJ (ab @CK @CL)) (ab @bS
 (ab @xh @ft)))) (ab (ab (ab @iC (ab @builtin_len @builtin_append)) (ab @builtin_copy (ab
 @builtin_min @builtin_max))) (ab (ab @Qo (ab @Qp @Qq)) (ab @IM (ab @dS @Qs)))))) (ab
 (ab (ab (ab (ab @Qt @Qu) (ab @Qv (ab @VA @VB))) (ab (ab @C2 (ab
 @cF @kG)) (ab @lU (ab @oN @dk)))) (ab (ab (ab @C3 (ab
 @xi @uX)) (ab @CR (ab @xj @CS))) (ab (ab @CT (ab @Ac
 @CU)) (ab @rQ (ab @Ad @GP))))) (ab (ab (ab (ab @rR (ab
 @Ae @Af)) (ab @ti (ab @uY @u5))) (ab (ab @fR (ab @eh
 @ep)) (ab @and_true (ab @and_self @dU)))) (ab (ab (ab @dX (ab @decide_true @decide_false))
 (ab @cA (ab @beq_true @beq_false))) (ab (ab @dY (ab @dC @bq)) (ab
 @ek (ab @en @c8))))))))
theorem ak:type_of%(ab @cond_true.{1} (ab @cond_false.{1} (ab @dD.{0} (ab @b7.{0} (ab @cd.{0} (ab @c9.{0} (ab @cx.{0} (ab @cz.{0} (ab @cB.{0} (ab @c0.{0} (ab @cm.{1} (ab @if_false.{1} (ab @beq_self_eq_true.{0} (ab @ne_eq.{1} (ab @eq_self.{1} (ab @c4 @c5)))))))))))))))):=(ab @cond_true.{1} (ab @cond_false.{1} (ab @dD.{0} (ab @b7.{0} (ab @cd.{0} (ab @c9.{0} (ab @cx.{0} (ab @cz.{0} (ab @cB.{0} (ab @c0.{0} (ab @cm.{1} (ab @if_false.{1} (ab @beq_self_eq_true.{0} (ab @ne_eq.{1} (ab @eq_self.{1} (ab @c4 @c5))))))))))))))))
end Go.Cl
namespace Go.Proofs.YtdfjfncifneocaaGreat
open Go.Cl
theorem bK:aX a2 5=some 1:=by kernel_rfl
theorem jW:eY a2 5=some 1:=by kernel_rfl
theorem kI:bX a2 5=some false:=by kernel_rfl
theorem ks:bV a2 5=some (.int .u8 0):=by kernel_rfl
theorem bA:aX a2 3=some 1:=by kernel_rfl
theorem abW:eY a2 3=some 8:=by kernel_rfl
theorem bu:bX a2 3=some false:=by kernel_rfl
theorem VL:bV a2 3=some (.int .i64 0):=by kernel_rfl
theorem fT:aX a2 22=some 1:=by kernel_rfl
theorem fU:bX a2 22=some false:=by kernel_rfl
theorem zSl:bV a2 22=some (.slice none 0 0):=by kernel_rfl
theorem Sz {a b:av a0}{i:a4}(ha:i<a.length)(hb:i<b.length)(h:a.take i=b.take i)(he:a.getD i 0=b.getD i 0):a.take (i+1)=b.take (i+1):=by
 rw[a3 ha,a3 hb,h]
 simp[eb,a1 ha,a1 hb] at he
 rw[he]
theorem K6 {lib:aA}(hl:lib.at 18=none)(s:aq)(x y:an)(a b:av a0)(hx:aN s 1 x a.length (ofBytes a))(hy:aN s 1 y b.length (ofBytes b))(ha:a.length<=4294967296)(hb:b.length<=4294967296):
  Runs a2 lib 18 [x,y] s fun v s' =>v= .bool (decide (a=b))/\s' =s:=by
 refine Runs.enter 26 Tryz.func18 rfl hl rfl rfl ?_
 intro f hn hf
 have h0:f.get 0=x:=hf 0
 have h1:f.get 1=y:=hf 1
 clear hf
 simp only[aj,ak,aa,QS,Qx,↓ao,hn,h0,h1,hx.bm a6,hy.bm a6]
 refine iN (fun h=> ?_) (fun h=> ?_)
 ·simp only[aj,al,oneOf,QS,↓ao,hn,cv]
  have:¬a=b:=fun e=>by subst e;simp at h
  simp[this]
 ·have Iu:a.length=b.length:=by simpa using h
  simp only[aj,QS,↓ao,hn]
  refine Comes.eZ (fun k f s' =>∃i:a4,k=a.length-i/\i<=a.length/\a.take i=b.take i/\f.n=26/\f.get 0=x/\f.get 1=y/\f.get 5= .int .i64 i/\s' =s) ⟨0,rfl,by omega,rfl,by simp only[aj,hn],by simp only[aj,Qx,↓ao,h0],by simp only[aj,Qx,↓ao,h1],by simp only[aj,↓ao];rfl,rfl⟩ ?_
  clear hn h0 h1 f
  rintro k f _ ⟨i,rfl,hi,heq,hn,h0,h1,h5,rfl⟩
  by_cases bd:i<a.length
  ·simp(disch:=omega)only[aj,ak,aa,QS,Qx,↓ao,hn,h0,h1,h5,hx.bm a6,bd,hx.indexAddr a6 bK,hy.indexAddr a6 bK,hx.di kI,hy.di kI,bw,hx.self,hy.self]
   refine iN (fun h=> ?_) (fun h=> ?_)
   ·simp only[aj,al,oneOf,QS,↓ao,hn,cv]
    have:¬a=b:=fun e=>by subst e;simp at h
    simp[this]
   ·simp(disch:=omega)only[aj,QS,Qx,↓ao,hn,h5,aD]
    refine ay (a.length-(i+1)) (by omega) ⟨i+1,rfl,by omega,?_,by simp only[ag,hn],by simp only[ad,↓ao,Qx,h0],by simp only[ad,↓ao,Qx,h1],by simp only[ad,↓ao];rfl,rfl⟩
    refine Sz bd (by omega) heq ?_
    simpa [UInt8.toNat_inj] using h
  ·simp only[aj,al,oneOf,aa,QS,Qx,↓ao,hn,h0,h5,hx.bm a6,bd,cv]
   have:a=b:=by rw[bz (by omega),bz (by omega)] at heq;exact heq
   simp[this]
structure cM (s:aq) (v:an) (s' :aq) (l:av a0):Prop where
 own:Own s' 1 v l.length (ofBytes l)
 fresh:aF s.next v
 stay:ar s.next s s'
theorem qd {l:av a0}{i:a4}(h:i<l.length):l.take (i+1)=l.take i++[l.getD i 0]:=by
 rw[a3 h];simp[eb,a1 h]
end Go.Proofs.YtdfjfncifneocaaGreat
namespace Go.Cl
section
variable {P:aR} {t:aE}
theorem kJ (a b:av a0):cQ P .eql t (.string ⟨a.toArray⟩) (.string ⟨b.toArray⟩)=some (.bool (decide (a=b))):=by
 simp only[cQ,PZ]
 congr 2
 by_cases h:a=b
 ·subst h;simp
 ·simp[h]
theorem ZM (hu:P.underlying t=some .string)(s:aq)(a:av a0):bm P s t (.string ⟨a.toArray⟩)=some (.int .i64 a.length):=by
 unfold bm;rw[hu]
theorem SA {s:aq}{dst e:aE}(hu:P.underlying t=some .string)(hd:P.underlying dst=some (.slice e))(he:P.underlying e=some (.int .u8)){a:av a0}(h:a.length<=9223372036854775807):gw P s t dst (.string ⟨a.toArray⟩)=aZ s (ofBytes a) a.length 1:=by
 unfold gw;rw[hu,hd]
 have h8:E7 P e=true:=by unfold E7;rw[he]
 have hb:bn a.length 9223372036854775807=true:=by simpa [dt] using h
 simp[h8,hb]
theorem N8 (a:av a0):oE (ofBytes a)=some a:=by
 induction a with
 |nil=>rfl
 |cons c a ih=>
  rw[IP]
  simp only[oE,ih,toByte]
  have:UInt8.ofNat ((c.toNat:b5)).toNat=c:=by simp
  rw[this]
theorem aN.str {s:aq}{dst e:aE}(hu:P.underlying t=some (.slice e))(hd:P.underlying dst=some .string)(he:P.underlying e=some (.int .u8)){v:an}{a:av a0}(h:aN s 1 v a.length (ofBytes a)):gw P s t dst v=some (.string ⟨a.toArray⟩,s):=by
 have h8:E7 P e=true:=by unfold E7;rw[he]
 generalize hn:a.length=n at h
 generalize ha:ofBytes a=l at h
 have hlen:l.length=n:=by rw[<-ha,bM,hn]
 cases h with
 |nil=>
  have:a=[]:=a7 hn
  subst this
  unfold gw;rw[hu,hd];simp[h8]
 |bare=>
  have:a=[]:=a7 hn
  subst this
  unfold gw;rw[hu,hd];simp[h8]
 |of i off n c b l hi hb hz hl hc g7 fy ht=>
  unfold gw;rw[hu,hd]
  simp only[h8,cm]
  cases n with
  |zero=>
   have:a=[]:=a7 hn
   subst this;rfl
  |succ n=>
   simp only
   rw[gF hb hl hc (by omega)]
   have:(b.cells.drop off).take (n+1)=ofBytes a:=by rw[Nat.mul_one] at ht;rw[ht,ha]
   rw[this]
   simp only[N8]
end
end Go.Cl
namespace Go.Proofs.YtdfjfncifneocaaGreat
open Go.Cl
theorem I2:aX a2 9=some 1:=by kernel_rfl
theorem tp:bX a2 9=some false:=by kernel_rfl
def VM (T:av (av a0)):av an:=T.map fun a=> .string ⟨a.toArray⟩
theorem SB {T:av (av a0)}{i:a4}(h:i<T.length):(VM T).getD i undef= .string ⟨(T[i]).toArray⟩:=by
 simp[VM,bl,a1 h]
def ag9 (s:aq)(a:av a0)(T:av (av a0))(v:an)(s' :aq):Prop:=(∃r:b5,v= .int .i64 r/\(0<=r↔a∈T))/\s' =s
set_option maxHeartbeats 4000000 in
theorem N9 {lib:aA}(hl:lib.at 78=none)(s:aq)(x:an)(a:av a0)(T:av (av a0))(hx:aN s 1 x T.length (VM T))(hT:T.length<=1000000):
  Runs a2 lib 78 [x,.string ⟨a.toArray⟩] s (ag9 s a T):=by
 refine Runs.enter 19 Tryz.func78 rfl hl rfl rfl ?_
 intro f hn hf
 have h0:f.get 0=x:=hf 0
 have h1:f.get 1= .string ⟨a.toArray⟩:=hf 1
 clear hf
 simp only[aj,aa,QS,Qx,↓ao,hn,h0,hx.bm c6]
 refine Comes.eZ (fun z f s' =>∃(i:a4),z=T.length-i/\i<=T.length/\a∉T.take i/\s' =s/\f.n=19/\f.get 0=x/\f.get 1= .string ⟨a.toArray⟩/\f.get 7= .int .i64 T.length/\f.get 8= .int .i64 i)
  ⟨0,rfl,by omega,by simp,rfl,by simp only[ad,ag,↓ao,Qx,hn,h0,h1,ep];rfl⟩ ?_
 clear hn h0 h1 f
 rintro z f s2 ⟨i,rfl,hi,Ux,cR,hn,h0,h1,h7,h8⟩
 subst cR
 by_cases bd:i<T.length
 ·have c1:(i:b5)<(T.length:b5):=by omega
  have mY:=hx.indexAddr (k:= .i64) (x:=(i:b5)) c6 I2 (by omega) (by omega)
  rw[bq] at mY
  have fz:=hx.di (P:=a2) tp bd
  rw[SB bd] at fz
  have SC:T.take (i+1)=T.take i++[T[i]]:=by rw[a3 bd]
  have he:=kJ (P:=a2) (t:=9) a T[i]
  by_cases c2:a=T[i]
  ·rw[dE c2] at he
   simp only[aj,QS,Qx,↓ao,hn,h0,h1,h7,h8,eq_true c1,mY,fz,he]
   simp only[aj,al,oneOf,QS,↓ao,hn,dO]
   exact⟨⟨(i:b5),rfl,by rw[c2];simp⟩,rfl⟩
  ·rw[dc c2] at he
   simp(disch:=omega)only[aj,QS,Qx,↓ao,hn,h0,h1,h7,h8,eq_true c1,mY,fz,he,aD]
   refine ay (T.length-(i+1)) (by omega) ⟨i+1,rfl,by omega,by rw[SC];intro h;rcases List.mem_append.mp h with h|h;exact Ux h;exact c2 (List.mem_singleton.mp h),rfl,by simp only[ag,hn],by simp only[ad,↓ao,Qx,h0],by simp only[ad,↓ao,Qx,h1],by simp only[ad,↓ao,Qx,h7],by simp only[ad,↓ao];rfl⟩
 ·obtain rfl:i=T.length:=by omega
  have c1:¬(T.length:b5)<(T.length:b5):=by omega
  rw[bz (a5 _)] at Ux
  simp only[aj,al,oneOf,QS,↓ao,hn,h7,h8,eq_false c1,dO]
  exact⟨⟨-1,rfl,by simp[Ux]⟩,rfl⟩
theorem FG {lib:aA}(hl:lib.at 43=none)(Nr:lib.at 78=none)(s:aq)(x:an)(a:av a0)(T:av (av a0))(hx:aN s 1 x T.length (VM T))(hT:T.length<=1000000):
  Runs a2 lib 43 [x,.string ⟨a.toArray⟩] s fun v s' =>v= .bool (decide (a∈T))/\s' =s:=by
 refine Runs.enter 9 Tryz.func43 rfl hl rfl rfl ?_
 intro f hn hf
 have h0:f.get 0=x:=hf 0
 have h1:f.get 1= .string ⟨a.toArray⟩:=hf 1
 clear hf
 simp only[aj,ak,aa,QS,Qx,↓ao,hn,h0,h1]
 refine(N9 Nr s x a T hx hT).mono ?_
 rintro _ s2 ⟨⟨r,rfl,hr⟩,cR⟩
 subst cR
 by_cases c1:a∈T
 ·have c2:0<=r:=hr.mpr c1
  rw[dE c1]
  simp only[aj,al,oneOf,QS,↓ao,hn,eq_true c2,dT]
 ·have c2:¬0<=r:=fun e=>c1 (hr.mp e)
  rw[dc c1]
  simp only[aj,al,oneOf,QS,↓ao,hn,eq_false c2,dT]
end Go.Proofs.YtdfjfncifneocaaGreat
namespace Go.Cl.Pr
def uA (a b:b5):b5:=if b-a>a-b then b-a else a-b
def lC (a b c:b5):b5:=if uA (a+b-c) a<=uA (a+b-c) b/\uA (a+b-c) a<=uA (a+b-c) c then a else if uA (a+b-c) b<=uA (a+b-c) c then b else c
def pD (tag a b c:b5):b5:=if tag=1 then a else if tag=2 then b else if tag=3 then(a+b)/2 else if tag=4 then lC a b c else 0
def hJ (z:b5):a0:=UInt8.ofNat (z%256).toNat
theorem nn (z:b5):((hJ z).toNat:b5)=z%256:=by
 have:(hJ z).toNat=(z%256).toNat%256:=UInt8.toNat_ofNat'
 rw[this];omega
def At (l:av a0)(n c i:a4):b5:=if c<=i%n then(((l.getD (i-c) 0).toNat:a4):b5) else 0
def tq (l:av a0)(n i:a4):b5:=if n<=i then(((l.getD (i-n) 0).toNat:a4):b5) else 0
def oS (l:av a0)(n c i:a4):b5:=if n<=i/\c<=i%n then(((l.getD (i-n-c) 0).toNat:a4):b5) else 0
theorem u6 (x:a0):(0:b5)<=((x.toNat:a4):b5)/\((x.toNat:a4):b5)<=255:=by have:=x.toNat_lt;omega
def gs (tag:b5)(l:av a0)(n c i:a4):b5:=pD tag (At l n c i) (tq l n i) (oS l n c i)
def J6 (T:b5)(g:bg)(n i:a4):av a0:=if g=true/\i%n=0 then [hJ T] else []
def im (T:b5)(g:bg)(l:av a0)(n c m:a4):av a0:=(et m).flatMap fun i=>J6 T g n i++[hJ ((((l.getD i 0).toNat:a4):b5)-gs T l n c i)]
theorem lD (T:b5)(g:bg)(l:av a0)(n c m:a4):im T g l n c (m+1)=im T g l n c m++J6 T g n m++[hJ ((((l.getD m 0).toNat:a4):b5)-gs T l n c m)]:=by
 unfold im
 rw[dd,List.flatMap_append]
 simp
theorem VN (T:b5)(g:bg)(n i:a4):(J6 T g n i).length<=1:=by unfold J6;split<;>simp
theorem Bs (T:b5)(g:bg)(l:av a0)(n c m:a4):(im T g l n c m).length<=2*m:=by
 induction m with
 |zero=>simp[im]
 |succ m ih=>
  rw[lD,cb,cb]
  have:=VN T g n m
  simp;omega
def oC (p co cl:b5):Prop:=(p=1\/p=2\/(10<=p/\p<=15))/\1<=co/\co<=4/\1<=cl/\cl<=4096
instance (p co cl:b5):Decidable (oC p co cl):=by unfold oC;infer_instance
def iF (p:b5):b5:=if p=15 then 2 else if 10<=p then p-10 else 1
def eJ (p co cl:b5)(l:av a0):av a0×b5:=
 if¬oC p co cl then([],1) else if p=1 then(l,0) else if l.length%(co.toNat*cl.toNat)≠0 then([],4) else(im (iF p) (decide (10<=p)) l (co.toNat*cl.toNat) co.toNat l.length,0)
theorem xA (p co cl:b5)(l:av a0):(eJ p co cl l).1.length<=2*l.length:=by
 unfold eJ
 split
 ·simp
 ·split
  ·show l.length<=_;omega
  ·split
   ·simp
   ·exact Bs ..
def qf (l:av a0)(n r:a4):av a0:=(l.drop (r*n)).take n
theorem oT {l:av a0}{n r:a4}(h:(r+1)*n<=l.length):(qf l n r).length=n:=by
 have:r*n+n<=l.length:=by rw[eo] at h;exact h
 unfold qf;rw[List.length_take,List.length_drop];omega
theorem np {l:av a0}{n r k:a4}(hk:k<n):(qf l n r).getD k 0=l.getD (r*n+k) 0:=by
 unfold qf
 rw[bl,bl,List.getElem?_take_of_lt hk,List.getElem?_drop]
def tt (l:av a0)(n m:a4):av (av a0):=(et m).map (qf l n)
theorem xB (l:av a0)(n m:a4):(tt l n m).length=m:=by simp[tt]
theorem G3 {l:av a0}{n m r:a4}(h:r<(tt l n m).length):(tt l n m)[r]=qf l n r:=by simp[tt]
theorem Oa (l:av a0)(n m:a4):tt l n (m+1)=tt l n m++[qf l n m]:=by simp[tt,dd]
theorem I3 {n r k:a4}(hk:k<n):(r*n+k)%n=k:=by rw[Nat.mul_comm,Nat.mul_add_mod,Nat.mod_eq_of_lt hk]
def tu (T:b5)(g:bg)(l:av a0)(n c r k:a4):av a0:=if k=0 then im T g l n c (r*n)++J6 T g n (r*n) else im T g l n c (r*n+k)
theorem SD {T:b5}{g:bg}{l:av a0}{n c r k:a4}(hk:k<n):tu T g l n c r k++[hJ ((((l.getD (r*n+k) 0).toNat:a4):b5)-gs T l n c (r*n+k))]=tu T g l n c r (k+1):=by
 unfold tu
 rw[ed (by omega:¬k+1=0),<-Nat.add_assoc,lD]
 by_cases h:k=0
 ·subst h;rw[c7 rfl,Nat.add_zero]
 ·rw[ed h]
  have:J6 T g n (r*n+k)=[]:=by
   unfold J6;rw[ed];rintro ⟨_,h2⟩;rw[I3 hk] at h2;exact h h2
  rw[this,List.append_nil]
theorem VO {T:b5}{g:bg}{l:av a0}{n c r:a4}(hn:0<n):tu T g l n c r n=im T g l n c ((r+1)*n):=by
 unfold tu;rw[ed (by omega),eo]
theorem ZN (T:b5)(g:bg)(l:av a0)(n c r k:a4):(tu T g l n c r k).length<=2*(r*n+k)+1:=by
 unfold tu
 split
 ·rw[cb]
  have:=Bs T g l n c (r*n)
  have:=VN T g n (r*n)
  omega
 ·have:=Bs T g l n c (r*n+k)
  omega
end Go.Cl.Pr
namespace Go.Cl
section
variable {P:aR} {lib:aA} {all:av cg}
end
theorem Ob {P:aR}{lib:aA}{all r:av cg}{o:cg}{f:aW}{s:aq}{Q:aW->aq->Prop}{b:bg}(J:aW->aq->Prop)(h1:∀Q' :aW->aq->Prop,(∀f' s',J f' s' ->Q' f' s')->w6 P lib all o r f s Q' b)(h2:∀f' s',J f' s' ->Q f' s'):w6 P lib all o r f s Q b:=h1 Q h2
section
variable (P:aR) (lib:aA) (b:a4) (all:av cg) (r:av cg) (id:a4) (f:aW) (T:aq) (Q:aW->aq->Prop)
variable (d:a9 Tmp) (ty:aE) (ps:String) (af:eu Edge) (gd:a9 (a4×bg))
end
structure qU (s0:aq) (K:a4) (i id:a4) (ava:av (a4×a4×jZ)) (T U:aq):Prop extends Stands s0 K i id ava T U where
 ZO:ar s0.next s0 T
 ZP:ar s0.next s0 U
 ids:∀x∈ava,s0.next<=x.2.1
section
variable {P:aR} {lib:aA} {b:a4} {all r:av cg} {id:a4} {f:aW} {T:aq} {d:a9 Tmp} {Q:aW->aq->Prop}
end
namespace LA
structure dP (A:a4->bg) (s s' :aq):Prop where
 next:s.next<=s'.next
 get:∀i,A i=true->s'.heap.get i=s.heap.get i
theorem dP.refl (A:a4->bg)(s:aq):dP A s s:=⟨a5 _,fun _ _=>rfl⟩
theorem dP.trans {A:a4->bg}{s s' yB:aq}(h:dP A s s')(k:dP A s' yB):dP A s yB:=⟨c3 h.next k.next,fun i hi=>(k.get i hi).trans (h.get i hi)⟩
theorem ar.yC {A:a4->bg}{n:a4}{s s' :aq}(hA:∀i,A i=true->i<n)(h:ar n s s'):dP A s s' :=⟨h.next,fun i hi=>h.get i (hA i hi)⟩
def abX (o:cg):bg:=
 match o.op with
 | .slice _ _ _ _ _=>true
 | .load _ _=>true
 | .call ⟨.builtin .len,_,_⟩=>true
 | .convert _ _ _=>true
 |_=>false
def iG (P:aR)(o:cg):bg:=fv o||(abX o&&aP P o)
def ej (A:a4->bg):a9 an->bg
 |some (.slice (some a) _ c)=>A a.block||cc c 0
 |some (.slice none _ _)=>true
 |some (.string _)=>true
 |some (.pointer (some a))=>A a.block
 |_=>false
def SE (A:a4->bg):a9 an->bg
 |some (.slice a n c)=>ej A (some (.slice a n c))
 |_=>true
theorem K7 {A:a4->bg}(k:cp)(n:b5):SE A (some (.int k n))=true:=rfl
theorem Au {A:a4->bg}(b:ByteArray):SE A (some (.string b))=true:=rfl
def I4:a9 (av an)->bg
 |some [.slice _ _ _]=>true
 |some [.string _]=>true
 |_=>false
def mE (o:cg)(f:aW)(A:a4->bg):bg:=
 match o.op with
 | .slice _ x _ _ _=>ej A (aS f x)
 | .load _ x=>ej A (aS f x)
 | .call ⟨.builtin .len,args,_⟩=>I4 (aa f args.toList)
 | .convert _ _ x=>SE A (aS f x)
 |_=>true
theorem Df {P:aR}{s t:aq}{A:a4->bg}(h:dP A s t){ty:aE}{u:an}{lo hi mx:a9 an}(hl:ej A (some u)=true):dj P s ty u lo hi mx=dj P t ty u lo hi mx:=by
 unfold dj
 generalize P.underlying ty=U
 have ee:∀i c,(A i=true\/c=0)->∀z,kv s i c z=kv t i c z:=fun i c hi z=>by
  unfold kv
  cases c with
  |zero=>rfl
  |succ c=>simp only[aq.bR,h.get i (hi.resolve_right (by omega))]
 cases U with
 |none=>rfl
 |some D=>
  cases u with
  |slice a n c=>
   cases a with
   |none=>cases D<;>rfl
   |some a=>
    obtain⟨i,off,sp⟩:=a
    have hi:A i=true\/c=0:=by simpa [ej,b4] using hl
    cases sp with
    |none=>cases D<;>simp only[ee i c hi]
    |some k=>cases D<;>rfl
  |string x=>cases D<;>rfl
  |pointer a=>
   cases a with
   |none=>simp[ej] at hl
   |some a=>
    obtain⟨i,off,sp⟩:=a
    have hi:A i=true:=by simpa [ej,b4] using hl
    have hb:s.bR i=t.bR i:=by simp only[aq.bR,h.get i hi]
    cases sp with
    |none=>cases D<;>rfl
    |some k=>cases D<;>simp only[hb]
  |_=>simp[ej] at hl
theorem G4 {P:aR}{s t:aq}{A:a4->bg}(h:dP A s t){ty:aE}{u:an}(hl:ej A (some u)=true):aJ P s ty u=aJ P t ty u:=by
 unfold aJ
 cases u with
 |pointer a=>
  cases a with
  |none=>rfl
  |some a=>
   obtain⟨i,off,sp⟩:=a
   have hi:A i=true:=by simpa [ej,b4] using hl
   have hb:∀off c n,s.dr i off c n=t.dr i off c n:=fun off c n=>by simp only[aq.dr,aq.bR,h.get i hi]
   cases sp with
   |none=>rfl
   |some k=>simp only[hb]
 |_=>rfl
theorem VP {P:aR}{s t:aq}{ty:aE}{u:an}(hl:I4 (some [u])=true):bm P s ty u=bm P t ty u:=by
 unfold bm
 generalize P.underlying ty=U
 cases U with
 |none=>rfl
 |some D=>
  cases u with
  |slice a n c=>cases D<;>rfl
  |string x=>cases D<;>rfl
  |_=>simp[I4] at hl
theorem SF {P:aR}{s0 s t:aq}{A:a4->bg}(hs:dP A s0 s)(ht:dP A s0 t){src dst:aE}(hd:∀e,P.underlying dst≠some (.slice e)){u:an}(hl:SE A (some u)=true){v:an}{s' :aq}(h:gw P s src dst u=some (v,s')):gw P t src dst u=some (v,t):=by
 unfold gw at h|-
 split at h
 ·cases h;rfl
 ·cases h;rfl
 ·rename_i hh;exact absurd hh (hd _)
 ·rename_i hh;exact absurd hh (hd _)
 ·split at h
  ·rename_i hc;rw[c7 hc];cases h;rfl
  ·cases h
 ·rename_i e i off len c _ _
  split at h
  case isFalse=>cases h
  rename_i hc
  rw[c7 hc]
  cases len with
  |zero=>cases h;rfl
  |succ n=>
   have hc:A i=true\/c=0:=by simpa [SE,ej] using hl
   have he:s.dr i off c (n+1)=t.dr i off c (n+1):=by
    rcases hc with hi|h0
    ·simp only[aq.dr,aq.bR,hs.get i hi,ht.get i hi]
    ·subst h0
     have hz:∀q:aq,q.dr i off 0 (n+1)=none:=fun q=>by
      simp only[aq.dr];cases q.bR i with
      |none=>rfl
      |some b=>have:eg (off+(n+1)) 0=false:=by rw[<-Bool.not_eq_true,b4];omega
               simp[this]
     rw[hz,hz]
   simp only at h|-
   rw[<-he]
   cases hce:s.dr i off c (n+1) with
   |none=>rw[hce] at h;cases h
   |some l=>
    rw[hce] at h
    simp only at h|-
    cases hb:oE l with
    |none=>rw[hb] at h;cases h
    |some bs=>rw[hb] at h;cases h;rfl
 ·cases h
theorem VQ {P:aR}{o:cg}{A:a4->bg}{s0:aq}(h:iG P o=true){f:aW}{s t:aq}(hl:mE o f A=true)(hs:dP A s0 s)(ht:dP A s0 t){v:an}{s' :aq}(ha:cS P o f s=some (.val v s')):cS P o f t=some (.val v t):=by
 cases hp:fv o with
 |true=>exact xu hp ha
 |false=>
  simp only[iG,hp,ea,bC] at h
  obtain⟨h,hq⟩:=h
  obtain⟨dst,op,type,pos,after,guard⟩:=o
  have Oc:∀{r1 r2:a9 an},r1=r2->pO s r1=some (.val v s')->pO t r2=some (.val v t):=by
   intro r1 r2 e hv
   subst e
   cases r1 with
   |none=>cases hv
   |some w=>
    rw[xh] at hv
    injection hv with hv;injection hv with hv _;subst hv;rfl
  cases op<;>simp only[abX] at h<;>try (cases h;done)
  case slice ty x lo hi mx=>
   rw[y6] at ha|-
   simp only[mE] at hl
   split at ha
   ·rename_i u l hh m hu h2 h3 h4
    rw[hu] at hl
    have e1:=Df (P:=P) hs (ty:=ty) (lo:=l) (hi:=hh) (mx:=m) hl
    have e2:=Df (P:=P) ht (ty:=ty) (lo:=l) (hi:=hh) (mx:=m) hl
    exact Oc (by rw[<-e1,<-e2]) ha
   ·cases ha
  case convert src dst x=>
   rw[te] at ha|-
   simp only[mE] at hl
   split at ha
   ·rename_i u hu
    rw[hu] at hl
    cases hc:gw P s src dst u with
    |none=>rw[hc] at ha;cases ha
    |some r=>
     obtain⟨w,s1⟩:=r
     rw[hc,ft] at ha
     injection ha with ha;injection ha with hw _
     subst hw
     have hd:∀e,P.underlying dst≠some (.slice e):=fun e he=>by simp[aP,he] at hq
     rw[SF hs ht hd hl hc];rfl
   ·cases ha
  case load ty x=>
   rw[CO] at ha|-
   simp only[mE] at hl
   split at ha
   ·rename_i u hu
    rw[hu] at hl
    have e1:=G4 (P:=P) hs (ty:=ty) hl
    have e2:=G4 (P:=P) ht (ty:=ty) hl
    exact Oc (by rw[<-e1,<-e2]) ha
   ·cases ha
  case call cl=>
   obtain⟨callee,args,ts⟩:=cl
   cases callee with
   |builtin bi=>
    cases bi<;>simp only at h<;>try (cases h;done)
    simp only[mE] at hl
    rw[iP] at ha|-
    cases hev:aa f args.toList with
    |none=>rw[hev] at hl;simp[I4] at hl
    |some vs=>
     rw[hev] at hl ha
     match vs,hl with
     |[u],hl=>
      simp only at ha|-
      unfold ju at ha|-
      split at ha<;>rename_i hts<;>simp_all
      rw[<-VP (P:=P) (s:=s) (t:=t) hl];exact Oc ha
     |[],hl=>simp[I4] at hl
     |a::b::r,hl=>cases a<;>simp[I4] at hl
   |_=>simp at h
theorem G5 (p:a4->bg)(A:a4->bg):∀(ava:av (a4×a4×jZ)) (T:aq),(∀x∈ava,A x.2.1=false)->dP A T (Cl.fill p T ava):=by
 intro ava
 induction ava with
 |nil=>intro T _;exact dP.refl _ _
 |cons x ava ih=>
  intro T h
  obtain⟨j,id,bk⟩:=x
  have gz:A id=false:=h (j,id,bk) (List.mem_cons_self ..)
  have hr:=fun y hy=>h y (List.mem_cons_of_mem _ hy)
  simp only[Cl.fill]
  split
  ·exact dP.trans (s' :=T.put id (.dZ bk)) ⟨a5 _,fun i hi=>aq.bP _ _ _ _ (by intro e;subst e;rw[gz] at hi;cases hi)⟩ (ih _ hr)
  ·exact ih _ hr
section
variable (P:aR) (lib:aA) (A:a4->bg) (all:av cg) (r:av cg) (id:a4) (f:aW) (T:aq) (Q:aW->aq->Prop)
variable (d:a9 Tmp) (ty:aE) (ps:String) (af:eu Edge) (gd:a9 (a4×bg))
theorem K8 (x:a8):mE ⟨d,.move x,ty,ps,af,gd⟩ f A=true:=rfl
theorem Dg (x:a8):mE ⟨d,.assign x,ty,ps,af,gd⟩ f A=true:=rfl
theorem K9 (x y z:a8):mE ⟨d,.pick x y z,ty,ps,af,gd⟩ f A=true:=rfl
theorem xC (x:a8):mE ⟨d,.nilCheck x,ty,ps,af,gd⟩ f A=true:=rfl
theorem G6 (o:BinOp)(t:aE)(x y:a8)(u:aE):mE ⟨d,.binOp o t x y u,ty,ps,af,gd⟩ f A=true:=rfl
theorem La (o:UnOp)(t:aE)(x:a8):mE ⟨d,.unOp o t x,ty,ps,af,gd⟩ f A=true:=rfl
theorem Av (t u:aE)(x:a8):mE ⟨d,.convert t u x,ty,ps,af,gd⟩ f A=SE A (aS f x):=rfl
theorem u7 (t:aE)(x:a8)(i:a4):mE ⟨d,.fieldAddr t x i,ty,ps,af,gd⟩ f A=true:=rfl
theorem G7 (t:aE)(x:a8)(i:a4):mE ⟨d,.field t x i,ty,ps,af,gd⟩ f A=true:=rfl
theorem u9 (t:aE)(x y:a8):mE ⟨d,.indexAddr t x y,ty,ps,af,gd⟩ f A=true:=rfl
theorem G8 (t:aE)(x y:a8):mE ⟨d,.index t x y,ty,ps,af,gd⟩ f A=true:=rfl
theorem Aw (x:a8)(i:a4):mE ⟨d,.extract x i,ty,ps,af,gd⟩ f A=true:=rfl
theorem Lb (t:aE)(x:a8):mE ⟨d,.load t x,ty,ps,af,gd⟩ f A=ej A (aS f x):=rfl
theorem Qz (args:eu a8)(ts:eu aE):mE ⟨d,.call ⟨.builtin .len,args,ts⟩,ty,ps,af,gd⟩ f A=I4 (aa f args.toList):=rfl
theorem Ax (x:ByteArray):I4 (some [.string x])=true:=rfl
theorem cr {i o:a4}{c:a9 a4}(h:A i=true):ej A (some (.pointer (some ⟨i,o,c⟩)))=true:=by simpa [ej,b4] using h
theorem G9 (t:aE)(x:a8)(lo hi mx:a9 a8):mE ⟨d,.slice t x lo hi mx,ty,ps,af,gd⟩ f A=ej A (aS f x):=rfl
end
theorem Ha {s:aq}{z:a4}{v:an}{n:a4}{l:av an}(h:aN s z v n l):I4 (some [v])=true:=by
 cases h<;>rfl
def Dh (P:aR)(o:cg):bg:= !iG P o&& !aM P o
structure qU (A:a4->bg) (s0:aq) (K:a4) (i id:a4) (ava:av (a4×a4×jZ)) (T U:aq):Prop extends Stands s0 K i id ava T U where
 ZO:dP A s0 T
 ZP:dP A s0 U
 ids:∀x∈ava,A x.2.1=false
theorem SG {P:aR}{o:cg}(h:iG P o=true):aP P o=true:=by
 cases hp:fv o with
 |true=>exact C8 hp
 |false=>
  simp only[iG,hp,ea,bC] at h
  exact h.2
section
variable {P:aR} {lib:aA} {A:a4->bg} {all r:av cg} {id:a4} {f:aW} {T:aq} {d:a9 Tmp} {Q:aW->aq->Prop}
end
end LA
theorem bH:type_of%
 (ab (ab (ab (ab @LA.K8 @LA.Dg) (ab @LA.K9 @LA.Lb)) (ab (ab @LA.xC
 @LA.G6) (ab @LA.La (ab @LA.Av @LA.K7)))) (ab (ab (ab @LA.Au @LA.u7) (ab
 @LA.G7 @LA.u9)) (ab (ab @LA.G8 @LA.Aw) (ab @LA.Qz (ab @LA.G9 @LA.Ax))))):=
 (ab (ab (ab (ab @LA.K8 @LA.Dg) (ab @LA.K9 @LA.Lb)) (ab (ab @LA.xC
 @LA.G6) (ab @LA.La (ab @LA.Av @LA.K7)))) (ab (ab (ab @LA.Au @LA.u7) (ab
 @LA.G7 @LA.u9)) (ab (ab @LA.G8 @LA.Aw) (ab @LA.Qz (ab @LA.G9 @LA.Ax)))))
end Go.Cl
