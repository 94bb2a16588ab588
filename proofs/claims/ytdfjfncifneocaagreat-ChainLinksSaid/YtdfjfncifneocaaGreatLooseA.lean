/-
 The clean machine, part 22: rules for what makes memory and what writes it.
-/
import Derived.Test.YtdfjfncifneocaaGreatDraw
import Derived.Test.YtdfjfncifneocaaGreatProg
import Derived.KernelRfl
open And renaming intro->ab
open Go renaming Value->an,Program->ao,TypeId->av,Operand->a0,Oper->a8,IntKind->ev
open Nat renaming testBit->ax,le_refl->aY,blt_eq->bA,beq->ca,blt->cd,ble->cm,lt_of_lt_of_le->cz,zero_add->cT,beq_eq->dg,le_trans->ds,ble_eq->ea
open _root_ renaming List->aC,Nat->aR,Option->a3,Bool->b4,if_neg->ck,if_pos->cA,if_true->c5,not_true_eq_false->dt,not_false_eq_true->dv,true_and->ed,Array->et,ByteArray->eu
open List renaming mem_singleton->a1,getLastD_cons->a2,mem_cons_self->bb,append_assoc->bq,mem_cons_of_mem->bw,mem_append->bz,drop_succ_cons->b5,mem_cons->cc,length_append->cg,set_eq_take_append_cons_drop->ch,length_singleton->cp,nil_append->cv,mem_zipIdx_iff_getElem?->cx,getElem?_eq_getElem->cB,cons_append->cL,mem_append_right->cU,mem_of_mem_take->c0,mem_of_mem_drop->c3,mem_append_left->c4,getD_cons_zero->c6,getD_cons_succ->c7,set_cons_zero->c9,set_cons_succ->dc,all_eq_true->dA,append_nil->dI,length_nil->dP,replicate->dT,drop_zero->eh,drop_drop->ek,drop_take->en,drop_left->eo
open Bool renaming true_and->bt,and_eq_true->cb,and_true->cD,false_or->cJ,not_eq_true->cM,false_eq_true->c8,not_eq_true'->dw,or_eq_true->dK,false_and->eb,and_false->ec,not_false->eg,not_true->ep
open Go.Proofs.Tryz renaming prog->b7
set_option linter.unusedSimpArgs false
set_option linter.unusedVariables false
set_option maxRecDepth 100000
namespace Go.Cl
section
variable {P:ao} {lib:aD} {all r:aC a8} {f:aZ} {s:au} {d:a3 Tmp} {Q:aZ->au->Prop}
theorem bc {cs:aC an}{n z:aR}(h:cs.length=n*z)(K:∀v s',Own s' z v n cs->aM s.next v->aw s.next s s' ->iH P lib all r f s d Q (some (.val v s'))):iH P lib all r f s d Q (oU (a6 s cs n z)):=by
 obtain⟨h1,h2⟩:=Own.new (s:=s) h;rw[h1,eU];exact K _ _ h2 (fun i hi=>by injection hi with hi;subst hi;exact aY _) (aw.new s _)
theorem gb {st xt e:av}{xd:TypeDesc}{z kH:aR}{zv:an}(hu:P.underlying st=some (.slice e))(Cm:P.underlying xt=some xd)(wS:(∃e2,xd= .slice e2)\/xd= .string)(cX:br P e=some z)(oC:dX P e=some kH)(qu:b6 P e=some zv)(tq:ca zv.cells.toList.length z=true)
  {x y:an} {n m:aR} {l new:aC an} (hx:Own s z x n l) (hy:dU s z y=some (m,new)) (gM:new.length=m*z) (tE:0<z) (gF:new.all aT=true) (fp:(n+m)*kH<=140737488355328) (dr:n+m<=140737488355328) {base:aR} (hF:aM base x) (hB:base<=s.next)
  (K:∀x' s',Own s' z x' (n+m) (l++new)->aM base x' ->aw base s s' ->bG x s s' ->(aI x' =aI x\/∃i,aI x' =some i/\s.next<=i)->iH P lib all r f s d Q (some (.val x' s'))):iH P lib all r f s d Q (oU (eT P s st xt x y)):=by
 obtain⟨x',s',h1,h2,h3,h4⟩:=Own.append hu Cm wS cX oC qu tq hx hy gM tE gF fp dr;rw[h1,eU];refine K _ _ h2 (fun i hi=> ?_) (h3.keeps hF hB) h3 h4;rcases h4 with h4|⟨j,hj,hl⟩
 ·exact hF i (by rw[<-h4];exact hi)
 rw[hj] at hi;injection hi with hi;omega
theorem cj {st e:av}{z kH:aR}{zv:an}(hu:P.underlying st=some (.slice e))(cX:br P e=some z)(oC:dX P e=some kH)(qu:b6 P e=some zv)(tq:ca zv.cells.toList.length z=true)
  {x:an} {n m:aR} {l new:aC an} {a b:Tmp} {ty:av} {ps:String} {af:et Edge} (hx:Own s z x n l) (jt:f.get a=x) (Fm:b≠a) (ha:a<f.n) (hb:b<f.n) (gM:new.length=m*z) (tE:0<z) (gF:new.all aT=true) (fp:(n+m)*kH<=140737488355328) (dr:n+m<=140737488355328) {base:aR} (hF:aM base x) (hB:base<=s.next)
  (K:∀bs x' s',Own s' z x' (n+m) (l++new)->aM base x' ->aw base s s' ->bG x s s' ->(aI x' =aI x\/∃i,aI x' =some i/\s.next<=i)->iH P lib all r (f.put b bs) s' d Q (some (.val x' s'))):
  iH P lib all (⟨d,.call ⟨.builtin .append, #[.tmp a,.tmp b], #[st,st]⟩,ty,ps,af,none⟩::r) f s (some b) Q (oU (a6 s new m z)):=by
 refine bc gM fun bs s1 h1 h2 h3=> ?_
 have kU:=hx.keeps h3;obtain⟨x',s',g1,g2,g3,g4⟩:=Own.append hu hu (.inl ⟨e,rfl⟩) cX oC qu tq kU h1.aL.src gM tE gF fp dr;have g4' :aI x' =aI x\/∃i,aI x' =some i/\s.next<=i:=g4.imp id (fun⟨i,a,b⟩=>⟨i,a,ds h3.next b⟩)
 have g3' :bG x s s' :=⟨ds h3.next g3.next,fun i hi cE=>(g3.get i (cz hi h3.next) cE).trans (h3.get i hi)⟩;have zw:aM base x' :=fun i hi=>by
  rcases g4' with h4|⟨j,hj,hl⟩
  ·exact hF i (by rw[<-h4];exact hi)
  rw[hj] at hi;injection hi with hi;omega
 have k:=K bs x' s' g2 zw (g3'.keeps hF hB) g3' g4';have e1:ad (f.put b bs) [.tmp a,.tmp b]=some [x,bs]:=by
  simp only[ad,zZ,ag,ha,hb,c5,aa,jt,ck Fm]
 have e2:cV P ⟨d,.call ⟨.builtin .append, #[.tmp a,.tmp b], #[st,st]⟩,ty,ps,af,none⟩ (f.put b bs) s1=some (.val x' s'):=by
  rw[iJ,e1];simp only[builtin_append,g1,eU]
 rw[zX,cA hb,oV,um,lQ,e2];exact k
theorem gI {t e:av}{k:ev}{a:Int}(hu:P.underlying t=some (.slice e))(cX:br P e=some 1)(hz:b6 P e=some (.int k 0)):bp P s t 1 [(0,.int k a)]=a6 s [.int k a] 1 1:=by
 unfold bp;rw[hu];simp only[cX,hz];rfl
theorem W3 {t e:av}{zv v:an}(hu:P.underlying t=some (.slice e))(cX:br P e=some 1)(hz:b6 P e=some zv)(pg:cr zv=true)(tq:∃w,zv.cells.toList=[w])(hv:v.cells.toList=[v]):bp P s t 1 [(0,v)]=a6 s [v] 1 1:=by
 obtain⟨w,hw⟩:=tq;unfold bp;rw[hu];simp only[cX,hz,pg,hw,db,iu,hv,cp];rfl
theorem TA {t e:av}{k:ev}{a b c d:Int}(hu:P.underlying t=some (.slice e))(cX:br P e=some 1)(hz:b6 P e=some (.int k 0)):bp P s t 4 [(0,.int k a),(1,.int k b),(2,.int k c),(3,.int k d)]=a6 s [.int k a,.int k b,.int k c,.int k d] 4 1:=by
 unfold bp;rw[hu];simp only[cX,hz];rfl
end
structure az (s:au) (i:aR) (cs:aC an):Prop where
 lt:i<s.next
 eE:∃low z,s.bL i=some ⟨cs,low,true,z⟩/\low<=cs.length+1
theorem az.keeps {s s' :au}{i:aR}{cs:aC an}(h:az s i cs)(k:aw s.next s s'):az s' i cs:=
 ⟨cz h.lt k.next,by obtain⟨low,z,h1,h2⟩:=h.eE;exact⟨low,z,(k.eE h.lt).trans h1,h2⟩⟩
theorem az.turns {s s' :au}{i:aR}{cs:aC an}{v:an}(h:az s i cs)(k:bG v s s')(cE:aI v≠some i):az s' i cs:=
 ⟨cz h.lt k.next,by
  obtain⟨low,z,h1,h2⟩:=h.eE;refine⟨low,z,?_,h2⟩;simp only[au.bL,k.get i h.lt cE];exact h1⟩
theorem az.load {P:ao}{e:av}(nd:bU P e=some false){s:au}{i:aR}{cs:aC an}(h:az s i cs){off c:aR}(hc:c=cs.length+1)(ho:off<cs.length):aN P s e (.pointer (some ⟨i,off,some c⟩))=some (cs.getD off undef):=by
 obtain⟨low,z,h1,h2⟩:=h.eE;subst hc;unfold aN;simp only[nd];rw[ij h1 h2 (aY _) (by omega)];have:(cs.drop off).take 1=[cs.getD off undef]:=by
  rw[List.take_one,List.head?_drop,cB (by omega)];simp[List.getD,cB (show off<cs.length by omega)]
 simp only[this]
theorem az.bd {P:ao}{e:av}(nd:bU P e=some true){s:au}{i:aR}{cs:aC an}(cX:br P e=some cs.length)(h:az s i cs){c:aR}(hc:c=cs.length+1):aN P s e (.pointer (some ⟨i,0,some c⟩))=some (.agg cs.toArray):=by
 obtain⟨low,z,h1,h2⟩:=h.eE;subst hc;unfold aN;simp only[nd,cX];rw[ij h1 h2 (aY _) (by omega)];simp
theorem uy:∀(l:aC an) (off:aR) (vs:aC an),off+vs.length<=l.length->setAt l off vs=some (l.take off++vs++l.drop (off+vs.length)):=by
 intro l
 induction l with
 |nil=>intro off vs h;cases vs with
  |nil=>simp at h;subst h;simp[setAt]
  |cons v r=>simp at h
 |cons c r ih=>
  intro off vs h;cases off with
  |zero=>
   cases vs with
   |nil=>simp[setAt]
   |cons v vs=>
    simp only[setAt];rw[ih 0 vs (by simpa using h)];simp
  |succ n=>
   cases vs with
   |nil=>simp[setAt]
   |cons v vs=>
    simp only[setAt];rw[ih n (v::vs) (by simp at h|-;omega)];simp only[List.length_cons,List.take_succ_cons,cL,show n+1+(vs.length+1)=(n+(vs.length+1))+1 by omega,b5]
theorem az.store {P:ao}{e:av}(cX:br P e=some 1){s:au}{i:aR}{cs:aC an}(h:az s i cs){off c:aR}(hc:c=cs.length+1)(ho:off<cs.length){v:an}(hv:aT v=true):
  ∃s',fw P s e (.pointer (some ⟨i,off,some c⟩)) v=some s' /\az s' i (cs.set off v)/\(s'.next=s.next/\∀j,j≠i->s'.heap.get j=s.heap.get j):=by
 obtain⟨low,z,h1,h2⟩:=h.eE;subst hc;have nq:v.cells.toList=[v]:=by cases v<;>first|rfl|cases hv
 refine⟨s.put i (.eE ⟨cs.set off v,cs.length+1,true,z⟩),?_,⟨h.lt,cs.length+1,z,?_,by simp⟩,rfl,fun j hj=>au.bo _ _ _ _ (Ne.symm hj)⟩
 ·unfold fw;simp only[cX,nq,cp];unfold au.storeAt;have IE:setAt cs off [v]=some (cs.set off v):=by
   rw[uy _ _ _ (by simp;omega)];rw[ch,cA ho];simp
  have jZ:(true&&cm low (cs.length+1)&&ca (cs.length+1) (cs.length+1)&&[v].all aT)=true:=by
   simp[h2,hv]
  simp only[h1,jZ,c5,IE];rfl
 exact au.cC _ _ _ (by omega)
section
variable {P:ao} {lib:aD} {all r:aC a8} {f:aZ} {s:au} {d:a3 Tmp} {Q:aZ->au->Prop}
theorem ba {e:av}(cX:br P e=some 1){i:aR}{cs:aC an}(h:az s i cs){off c:aR}(hc:c=cs.length+1)(ho:off<cs.length){v:an}(hv:aT v=true)
  (K:∀s',az s' i (cs.set off v)->s'.next=s.next->(∀j,j≠i->s'.heap.get j=s.heap.get j)->iH P lib all r f s d Q (some (.val undef s'))):iH P lib all r f s d Q (Fk (fw P s e (.pointer (some ⟨i,off,some c⟩)) v)):=by
 obtain⟨s',h1,h2,h3,h4⟩:=h.store cX hc ho hv;rw[h1,kW];exact K s' h2 h3 h4
theorem aA {cs:aC an}{z:aR}(K:∀s',az s' s.next cs->aw s.next s s' ->s'.next=s.next+1->iH P lib all r f s d Q (some (.val (.pointer (some ⟨s.next,0,some (cs.length+1)⟩)) s'))):iH P lib all r f s d Q (oU (iE s cs z)):=by
 have:iE s cs z=some (.pointer (some ⟨s.next,0,some (cs.length+1)⟩),s.new (.eE ⟨cs,1,true,z⟩)):=by simp[iE,au.room]
 rw[this,eU];exact K _ ⟨by rw[yH];omega,1,z,oM _ _,by omega⟩ (aw.new _ _) rfl
end
theorem bG.aK {s s' :au}{i o:aR}{c:a3 aR}(h1:s'.next=s.next)(h2:∀j,j≠i->s'.heap.get j=s.heap.get j):bG (.pointer (some ⟨i,o,c⟩)) s s' :=
 ⟨by omega,fun j _ hj=>h2 j (fun e=>hj (by rw[e];rfl))⟩
theorem aw.aK {s s' :au}{i base:aR}(h1:s'.next=s.next)(h2:∀j,j≠i->s'.heap.get j=s.heap.get j)(hb:base<=i):aw base s s' :=
 ⟨by omega,fun j hj=>h2 j (by omega)⟩
theorem Own.aK {s s' :au}{i:aR}(h1:s'.next=s.next)(h2:∀j,j≠i->s'.heap.get j=s.heap.get j){z:aR}{v:an}{n:aR}{l:aC an}(h:Own s z v n l)(cE:aI v≠some i):Own s' z v n l:=
 h.turns (bG.aK (o:=0) (c:=none) h1 h2) (fun j hj e=>cE (by rw[hj];injection e with e;rw[<-e]))
theorem aU.aK {s s' :au}{i:aR}(h1:s'.next=s.next)(h2:∀j,j≠i->s'.heap.get j=s.heap.get j){z:aR}{v:an}{n:aR}{l:aC an}(h:aU s z v n l)(cE:aI v≠some i):aU s' z v n l:=by
 cases h with
 |nil=>exact .nil
 |bare=>exact .bare _ _
 |of j off n c b l hi hb hz hl hc hlen eO ht=>
  refine .of j off n c b l (by omega) ?_ hz hl hc hlen eO ht;simp only[au.bL,h2 j (fun e=>cE (by rw[e];rfl))];exact hb
theorem Own.put {P:ao}{e:av}(cX:br P e=some 1){s:au}{v:an}{n:aR}{l:aC an}(h:Own s 1 v n l){k:aR}(hk:k<n){w:an}(hw:aT w=true):
  ∃s',fw P s e (aX 1 v k) w=some s' /\Own s' 1 v n (l.set k w)/\bG v s s' :=by
 cases h with
 |nil=>omega
 |of i n low l hi hb hl hlen=>
  have dk:l.length=n:=by omega
  have TB:az s i l:=⟨hi,low,1,hb,hl⟩;obtain⟨s',h1,h2,h3,h4⟩:=TB.store cX (off:=k) (c:=l.length+1) rfl (by omega) hw;have jL:s'.bL i=some ⟨l.set k w,l.length+1,true,1⟩:=by
   have nq:w.cells.toList=[w]:=by cases w<;>first|rfl|cases hw
   unfold fw at h1;simp only[cX,nq,cp] at h1;unfold au.storeAt at h1;have IE:setAt l k [w]=some (l.set k w):=by
    rw[uy _ _ _ (by simp;omega)];rw[ch,cA (by omega)];simp
   have jZ:(true&&cm low (l.length+1)&&ca (l.length+1) (l.length+1)&&[w].all aT)=true:=by
    simp[hl,hw]
   simp only[hb,jZ,c5,IE] at h1;have MD:some (s.put i (.eE ⟨l.set k w,l.length+1,true,1⟩))=some s' :=h1;injection MD with MD;rw[<-MD];exact au.cC _ _ _ (by omega)
  refine⟨s',?_,?_,⟨by omega,fun j _ hj=>h4 j (fun e=>hj (by rw[e];rfl))⟩⟩
  ·simpa [aX] using h1
  have:=Own.of (z:=1) i n (l.length+1) (l.set k w) h2.lt jL (by simp) (by simp[hlen])
  simpa using this
theorem cI {P:ao}{lib:aD}{all r:aC a8}{f:aZ}{s:au}{d:a3 Tmp}{Q:aZ->au->Prop}{e:av}(cX:br P e=some 1){v:an}{n:aR}{l:aC an}(h:Own s 1 v n l){k:aR}(hk:k<n){w:an}(hw:aT w=true)
  (K:∀s',Own s' 1 v n (l.set k w)->bG v s s' ->iH P lib all r f s d Q (some (.val undef s'))):iH P lib all r f s d Q (Fk (fw P s e (aX 1 v k) w)):=by
 obtain⟨s',h1,h2,h3⟩:=h.put cX hk hw;rw[h1,kW];exact K s' h2 h3
theorem Kj (v:an):∀n,db [v] n=dT n v:=by
 intro n
 induction n with
 |zero=>rfl
 |succ n ih=>simp[db,ih,List.replicate_succ]
theorem rm {P:ao}{s:au}{t e:av}{k k1 k2:ev}{b8:aR}(hu:P.underlying t=some (.slice e))(cX:br P e=some 1)(hz:b6 P e=some (.int k 0))(hb:dX P e=some b8){n:aR}(hn:b8*n<=4294967296)(mf:n<=4294967296):
  dq P s t (.int k1 n) (.int k2 n)=a6 s (dT n (.int k 0)) n 1:=by
 show(match P.underlying t,Value.int k1 (Int.ofNat n),Value.int k2 (Int.ofNat n) with
 |some (.slice e),.int _ (.ofNat l),.int _ (.ofNat c)=>
  match br P e,b6 P e,dX P e with
  |some n,some z,some kH=>
   if cm l c&&cm c 4294967296&&cm (kH*c) 4294967296&&cr z&&ca z.cells.toList.length n then a6 s (db z.cells.toList l) l n else none
  |_,_,_=>none
 |_,_,_=>none)=_
 rw[hu];simp only[cX,hz,hb];have hc:(cm n n&&cm n 4294967296&&cm (b8*n) 4294967296&&cr (.int k 0)&&ca (Value.int k 0).cells.toList.length 1)=true:=by
  simp only[cb,ea];exact⟨⟨⟨⟨aY _,mf⟩,hn⟩,rfl⟩,rfl⟩
 rw[cA hc];have:(Value.int k 0).cells.toList=[.int k 0]:=rfl;rw[this,Kj]
section
variable {P:ao} {lib:aD} {all r:aC a8} {id:aR} {f:aZ} {T:au} {d:a3 Tmp} {Q:aZ->au->Prop}
theorem TC (v:an)(b:kM):DP P lib all r id f T d Q (some (v,b))=uv P lib all r (id+1) f d Q v (T.put id (.eE b)):=rfl
theorem mO {cs:aC an}{n z base:aR}(h:cs.length=n*z)(fM:id<T.next)(hb:base<=id)
  (K:∀v T',Own T' z v n cs->aI v=some id->aw base T T' ->T'.next=T.next->(∀j,j≠id->T'.heap.get j=T.heap.get j)->uv P lib all r (id+1) f d Q v T'):DP P lib all r id f T d Q (dh id (oU (a6 ⟨.nil,id⟩ cs n z))):=by
 have e:dh id (oU (a6 ⟨.nil,id⟩ cs n z))=some (.slice (some ⟨id,0,none⟩) n (cs.length+1),⟨cs,1,true,z⟩):=by
  have:a6 ⟨.nil,id⟩ cs n z=some (.slice (some ⟨id,0,none⟩) n (cs.length+1),(⟨.nil,id⟩:au).new (.eE ⟨cs,1,true,z⟩)):=by simp[a6,au.room]
  rw[this,eU];have hb:((⟨.nil,id⟩:au).new (.eE ⟨cs,1,true,z⟩)).bL id=some ⟨cs,1,true,z⟩:=oM ⟨.nil,id⟩ _;simp only[dh,hb]
 rw[e,TC];have zI:∀j,j≠id->(T.put id (.eE ⟨cs,1,true,z⟩)).heap.get j=T.heap.get j:=fun j hj=>au.bo _ _ _ _ (Ne.symm hj)
 refine K _ _ (.of id n 1 cs (by simpa [au.put] using fM) (au.cC _ _ _ (by omega)) (by omega) h) rfl ⟨aY _,fun j hj=>zI j (by omega)⟩ rfl zI
theorem oN {st xt e:av}{xd:TypeDesc}{z kH:aR}{zv:an}(hu:P.underlying st=some (.slice e))(Cm:P.underlying xt=some xd)(wS:(∃e2,xd= .slice e2)\/xd= .string)(cX:br P e=some z)(oC:dX P e=some kH)(qu:b6 P e=some zv)(tq:ca zv.cells.toList.length z=true)
  {x y:an} {n m:aR} {l new:aC an} (hx:Own T z x n l) (hy:dU T z y=some (m,new)) (gM:new.length=m*z) (tE:0<z) (gF:new.all aT=true) (fp:(n+m)*kH<=140737488355328) (dr:n+m<=140737488355328) {base:aR} (hF:aM base x) (hB:base<=T.next)
  (K:∀x' T',Own T' z x' (n+m) (l++new)->aM base x' ->aw base T T' ->bG x T T' ->(aI x' =aI x\/∃i,aI x' =some i/\T.next<=i)->uv P lib all r id f d Q x' T'):rh P lib all r id f d T Q (oU (eT P T st xt x y)):=by
 obtain⟨x',s',h1,h2,h3,h4⟩:=Own.append hu Cm wS cX oC qu tq hx hy gM tE gF fp dr;rw[h1,eU];refine K _ _ h2 (fun i hi=> ?_) (h3.keeps hF hB) h3 h4;rcases h4 with h4|⟨j,hj,hl⟩
 ·exact hF i (by rw[<-h4];exact hi)
 rw[hj] at hi;injection hi with hi;omega
end
theorem aj:type_of%
 (ab (ab (ab (ab (ab (ab (ab @Dj @yu) (ab @Dk (ab @Dl
 @GS))) (ab (ab @yv (ab @GU @Dm)) (ab @wW (ab @Dn @Ke)))) (ab
 (ab (ab @GV (ab @AM @AN)) (ab @Kf (ab @GW @Dp))) (ab (ab
 @Dq (ab @AP @GX)) (ab @yq (ab @oV @lQ))))) (ab (ab (ab (ab
 @dJ @zX) (ab @uf (ab @Df @Dg))) (ab (ab @Dh (ab @wV @ug))
 (ab @Di (ab @qV @qT)))) (ab (ab (ab @qU (ab @GR @z6))
 (ab @w6 (ab @Ha @ri))) (ab (ab @rk (ab @Hb @Hc)) (ab
 @uw (ab @DQ @DR)))))) (ab (ab (ab (ab (ab @DS @DG) (ab
 @qX (ab @A0 @A1))) (ab (ab @G5 (ab @A3 @sV)) (ab @yC
 (ab @DH @G6)))) (ab (ab (ab @G7 (ab @qY @A4)) (ab @G8 (ab
 @A5 @sW))) (ab (ab @DI (ab @wu @DJ)) (ab @yD (ab @DK
 @DL))))) (ab (ab (ab (ab @ur (ab @A6 @DM)) (ab @sX (ab
 @A7 @sY))) (ab (ab @A8 (ab @A9 @wv)) (ab @eb (ab
 @ec @Dr)))) (ab (ab (ab @AQ (ab @GY @yE)) (ab @yF (ab @Kh
 @Dx))) (ab (ab @Dy (ab @G1 @OR)) (ab @z2 (ab @uh @yx))))))) (ab
 (ab (ab (ab (ab (ab @G2 @si) (ab @z3 (ab @Dz @ui))) (ab (ab
 @AS (ab @wk @vt)) (ab @qy (ab @z4 @qz)))) (ab (ab (ab
 @z5 (ab @DA @wm)) (ab @uj (ab @uk @iJ))) (ab (ab @um
 (ab @AU @G3)) (ab @yz (ab @aa @ag))))) (ab (ab (ab (ab @zZ @Ds)
 (ab @GZ (ab @yw @Dt))) (ab (ab @Du (ab @Dv @Dw)) (ab @bJ
 (ab @uo @eU)))) (ab (ab (ab @kW (ab @builtin_len @builtin_append)) (ab @builtin_copy (ab
 @builtin_min @builtin_max))) (ab (ab @OS (ab @OT @OU)) (ab @yG (ab @cS @OW)))))) (ab
 (ab (ab (ab (ab @OX @OY) (ab @OZ (ab @Tt @Tu))) (ab (ab @DN (ab
 @bH @ef)) (ab @nQ (ab @mi @bZ)))) (ab (ab (ab @wX (ab
 @yA @wo)) (ab @DB (ab @yB @DD))) (ab (ab @DE (ab @AV
 @DF)) (ab @sS (ab @AW @G4))))) (ab (ab (ab (ab @sU (ab
 @AY @AZ)) (ab @uq (ab @wq @wx))) (ab (ab @lU (ab @cT
 @ed)) (ab @and_true (ab @and_self @cD)))) (ab (ab (ab @bt (ab @decide_true @decide_false))
 (ab @c8 (ab @beq_true @beq_false))) (ab (ab @ep (ab @eg @Int.toNat_natCast)) (ab
 @Int.ofNat_lt (ab @Int.ofNat_le @Int.natCast_inj)))))))):=
 (ab (ab (ab (ab (ab (ab (ab @Dj @yu) (ab @Dk (ab @Dl
 @GS))) (ab (ab @yv (ab @GU @Dm)) (ab @wW (ab @Dn @Ke)))) (ab
 (ab (ab @GV (ab @AM @AN)) (ab @Kf (ab @GW @Dp))) (ab (ab
 @Dq (ab @AP @GX)) (ab @yq (ab @oV @lQ))))) (ab (ab (ab (ab
 @dJ @zX) (ab @uf (ab @Df @Dg))) (ab (ab @Dh (ab @wV @ug))
 (ab @Di (ab @qV @qT)))) (ab (ab (ab @qU (ab @GR @z6))
 (ab @w6 (ab @Ha @ri))) (ab (ab @rk (ab @Hb @Hc)) (ab
 @uw (ab @DQ @DR)))))) (ab (ab (ab (ab (ab @DS @DG) (ab
 @qX (ab @A0 @A1))) (ab (ab @G5 (ab @A3 @sV)) (ab @yC
 (ab @DH @G6)))) (ab (ab (ab @G7 (ab @qY @A4)) (ab @G8 (ab
 @A5 @sW))) (ab (ab @DI (ab @wu @DJ)) (ab @yD (ab @DK
 @DL))))) (ab (ab (ab (ab @ur (ab @A6 @DM)) (ab @sX (ab
 @A7 @sY))) (ab (ab @A8 (ab @A9 @wv)) (ab @eb (ab
 @ec @Dr)))) (ab (ab (ab @AQ (ab @GY @yE)) (ab @yF (ab @Kh
 @Dx))) (ab (ab @Dy (ab @G1 @OR)) (ab @z2 (ab @uh @yx))))))) (ab
 (ab (ab (ab (ab (ab @G2 @si) (ab @z3 (ab @Dz @ui))) (ab (ab
 @AS (ab @wk @vt)) (ab @qy (ab @z4 @qz)))) (ab (ab (ab
 @z5 (ab @DA @wm)) (ab @uj (ab @uk @iJ))) (ab (ab @um
 (ab @AU @G3)) (ab @yz (ab @aa @ag))))) (ab (ab (ab (ab @zZ @Ds)
 (ab @GZ (ab @yw @Dt))) (ab (ab @Du (ab @Dv @Dw)) (ab @bJ
 (ab @uo @eU)))) (ab (ab (ab @kW (ab @builtin_len @builtin_append)) (ab @builtin_copy (ab
 @builtin_min @builtin_max))) (ab (ab @OS (ab @OT @OU)) (ab @yG (ab @cS @OW)))))) (ab
 (ab (ab (ab (ab @OX @OY) (ab @OZ (ab @Tt @Tu))) (ab (ab @DN (ab
 @bH @ef)) (ab @nQ (ab @mi @bZ)))) (ab (ab (ab @wX (ab
 @yA @wo)) (ab @DB (ab @yB @DD))) (ab (ab @DE (ab @AV
 @DF)) (ab @sS (ab @AW @G4))))) (ab (ab (ab (ab @sU (ab
 @AY @AZ)) (ab @uq (ab @wq @wx))) (ab (ab @lU (ab @cT
 @ed)) (ab @and_true (ab @and_self @cD)))) (ab (ab (ab @bt (ab @decide_true @decide_false))
 (ab @c8 (ab @beq_true @beq_false))) (ab (ab @ep (ab @eg @Int.toNat_natCast)) (ab
 @Int.ofNat_lt (ab @Int.ofNat_le @Int.natCast_inj))))))))
theorem ak:type_of%(ab @cond_true.{1} (ab @cond_false.{1} (ab @eh.{0} (ab @b5.{0} (ab @cL.{0} (ab @cv.{0} (ab @c6.{0} (ab @c7.{0} (ab @c9.{0} (ab @dc.{0} (ab @c5.{1} (ab @if_false.{1} (ab @beq_self_eq_true.{0} (ab @ne_eq.{1} (ab @eq_self.{1} (ab @dt @dv)))))))))))))))):=(ab @cond_true.{1} (ab @cond_false.{1} (ab @eh.{0} (ab @b5.{0} (ab @cL.{0} (ab @cv.{0} (ab @c6.{0} (ab @c7.{0} (ab @c9.{0} (ab @dc.{0} (ab @c5.{1} (ab @if_false.{1} (ab @beq_self_eq_true.{0} (ab @ne_eq.{1} (ab @eq_self.{1} (ab @dt @dv))))))))))))))))
end Go.Cl
namespace Go.Proofs.YtdfjfncifneocaaGreat
open Go.Cl
theorem cO:br b7 5=some 1:=by kernel_rfl
theorem sm:dX b7 5=some 1:=by kernel_rfl
theorem gQ:bU b7 5=some false:=by kernel_rfl
theorem rU:b6 b7 5=some (.int .u8 0):=by kernel_rfl
theorem aV:br b7 3=some 1:=by kernel_rfl
theorem YW:dX b7 3=some 8:=by kernel_rfl
theorem aP:bU b7 3=some false:=by kernel_rfl
theorem W4:b6 b7 3=some (.int .i64 0):=by kernel_rfl
theorem iA:br b7 22=some 1:=by kernel_rfl
theorem gJ:bU b7 22=some false:=by kernel_rfl
theorem zSl:b6 b7 22=some (.slice none 0 0):=by kernel_rfl
end Go.Proofs.YtdfjfncifneocaaGreat
namespace Go.Cl
def Hd (o:a8):b4:=
 match o.op with
 | .slice _ _ _ _ _=>true
 | .load _ _=>true
 | .call ⟨.builtin .len,_,_⟩=>true
 |_=>false
def dD (o:a8):b4:=fA o||Hd o
def di (b:aR):a3 an->b4
 |some (.slice (some a) _ c)=>cd a.block b||ca c 0
 |some (.slice none _ _)=>true
 |some (.string _)=>true
 |some (.pointer (some a))=>cd a.block b
 |_=>false
def tt:a3 (aC an)->b4
 |some [.slice _ _ _]=>true
 |some [.string _]=>true
 |_=>false
def fB (o:a8)(f:aZ)(b:aR):b4:=
 match o.op with
 | .slice _ x _ _ _=>di b (a5 f x)
 | .load _ x=>di b (a5 f x)
 | .call ⟨.builtin .len,args,_⟩=>tt (ad f args.toList)
 |_=>true
theorem pr {P:ao}{s t:au}{b:aR}(h:aw b s t){ty:av}{u:an}{lo hi mx:a3 an}(hl:di b (some u)=true):fa P s ty u lo hi mx=fa P t ty u lo hi mx:=by
 unfold fa;generalize P.underlying ty=U;have ee:∀i c,(i<b\/c=0)->∀z,l5 s i c z=l5 t i c z:=fun i c hi z=>by
  unfold l5;cases c with
  |zero=>rfl
  |succ c=>simp only[au.bL,h.get i (hi.resolve_right (by omega))]
 cases U with
 |none=>rfl
 |some D=>
  cases u with
  |slice a n c=>
   cases a with
   |none=>cases D<;>rfl
   |some a=>
    obtain⟨i,off,sp⟩:=a;have hi:i<b\/c=0:=by simpa [di,bA] using hl
    cases sp with
    |none=>cases D<;>simp only[ee i c hi]
    |some k=>cases D<;>rfl
  |string x=>cases D<;>rfl
  |pointer a=>
   cases a with
   |none=>simp[di] at hl
   |some a=>
    obtain⟨i,off,sp⟩:=a;have hi:i<b:=by simpa [di,bA] using hl
    have hb:s.bL i=t.bL i:=by simp only[au.bL,h.get i hi]
    cases sp with
    |none=>cases D<;>rfl
    |some k=>cases D<;>simp only[hb]
  |_=>simp[di] at hl
theorem rn {P:ao}{s t:au}{b:aR}(h:aw b s t){ty:av}{u:an}(hl:di b (some u)=true):aN P s ty u=aN P t ty u:=by
 unfold aN;cases u with
 |pointer a=>
  cases a with
  |none=>rfl
  |some a=>
   obtain⟨i,off,sp⟩:=a;have hi:i<b:=by simpa [di,bA] using hl
   have hb:∀off c n,s.dG i off c n=t.dG i off c n:=fun off c n=>by simp only[au.dG,au.bL,h.get i hi]
   cases sp with
   |none=>rfl
   |some k=>simp only[hb]
 |_=>rfl
theorem DV {P:ao}{s t:au}{ty:av}{u:an}(hl:tt (some [u])=true):aQ P s ty u=aQ P t ty u:=by
 unfold aQ;generalize P.underlying ty=U;cases U with
 |none=>rfl
 |some D=>
  cases u with
  |slice a n c=>cases D<;>rfl
  |string x=>cases D<;>rfl
  |_=>simp[tt] at hl
theorem rp {P:ao}{o:a8}{b:aR}{s0:au}(h:dD o=true){f:aZ}{s t:au}(hl:fB o f b=true)(hs:aw b s0 s)(ht:aw b s0 t){v:an}{s' :au}(ha:cV P o f s=some (.val v s')):cV P o f t=some (.val v t):=by
 cases hp:fA o with
 |true=>exact uu hp ha
 |false=>
  simp only[dD,hp,cJ] at h;obtain⟨dst,op,type,pos,after,guard⟩:=o;have w7:∀{r1 r2:a3 an},r1=r2->qo s r1=some (.val v s')->qo t r2=some (.val v t):=by
   intro r1 r2 e hv;subst e;cases r1 with
   |none=>cases hv
   |some w=>
    rw[uo] at hv;injection hv with hv;injection hv with hv _;subst hv;rfl
  cases op<;>simp only[Hd] at h<;>try (cases h;done)
  case slice ty x lo hi mx=>
   rw[vt] at ha|-
   simp only[fB] at hl;split at ha
   ·rename_i u l hh m hu h2 h3 h4;rw[hu] at hl;have e1:=pr (P:=P) hs (ty:=ty) (lo:=l) (hi:=hh) (mx:=m) hl;have e2:=pr (P:=P) ht (ty:=ty) (lo:=l) (hi:=hh) (mx:=m) hl;exact w7 (by rw[<-e1,<-e2]) ha
   cases ha
  case load ty x=>
   rw[yx] at ha|-
   simp only[fB] at hl;split at ha
   ·rename_i u hu;rw[hu] at hl;have e1:=rn (P:=P) hs (ty:=ty) hl;have e2:=rn (P:=P) ht (ty:=ty) hl;exact w7 (by rw[<-e1,<-e2]) ha
   cases ha
  case call cl=>
   obtain⟨callee,args,ts⟩:=cl;cases callee with
   |builtin bi=>
    cases bi<;>simp only at h<;>try (cases h;done)
    simp only[fB] at hl;rw[iJ] at ha|-
    cases WT:ad f args.toList with
    |none=>rw[WT] at hl;simp[tt] at hl
    |some vs=>
     rw[WT] at hl ha
     match vs,hl with
     |[u],hl=>
      simp only at ha|-
      unfold jU at ha|-
      split at ha<;>rename_i hts<;>simp_all
      rw[<-DV (P:=P) (s:=s) (t:=t) hl];exact w7 ha
     |[],hl=>simp[tt] at hl
     |a::b::r,hl=>cases a<;>simp[tt] at hl
   |_=>simp at h
theorem nA (p:aR->b4)(b:aR):∀(ars:aC (aR×aR×kM)) (T:au),(∀x∈ars,b<=x.2.1)->aw b T (Cl.fill p T ars):=by
 intro ars
 induction ars with
 |nil=>intro T _;exact aw.refl _ _
 |cons x ars ih=>
  intro T h;obtain⟨j,id,bk⟩:=x;have fM:b<=id:=h (j,id,bk) (bb ..);have hr:=fun y hy=>h y (bw _ hy)
  simp only[Cl.fill];split
  ·exact aw.trans (s' :=T.put id (.eE bk)) ⟨aY _,fun i hi=>au.bo _ _ _ _ (by omega)⟩ (ih _ hr)
  exact ih _ hr
def bW (P:ao)(lib:aD)(b:aR)(all:aC a8):aC a8->aR->aZ->au->(aZ->au->Prop)->Prop
 |[],_,f,T,Q=>Q f T
 |o::r,id,f,T,Q=>
  match cH all o f with
  |true=>
   match aS P o,aJ P o with
   |true,_=>
    match cV P o f T with
    |some (.val v _)=>fB o f b=true/\bI v v=true/\dm f o.dst v fun f' =>bW P lib b all r id f' T Q
    |_=>False
   |false,true=>
    match dh id (cV P o f ⟨.nil,id⟩) with
    |some (v,bl)=>dm f o.dst v fun f' =>bW P lib b all r (id+1) f' (T.put id (.eE bl)) Q
    |none=>False
   |false,false=>
    match cV P o f T with
    |some (.val v T')=>aw b T T' /\dm f o.dst v fun f' =>bW P lib b all r id f' T' Q
    |some (.call g args)=>Runs P lib g args T fun v T' =>aw b T T' /\dm f o.dst v fun f' =>bW P lib b all r id f' T' Q
    |none=>False
  |false=>dm f o.dst undef fun f' =>bW P lib b all r (if aJ P o then id+1 else id) f' T Q
def mj (P:ao)(lib:aD)(b:aR)(all:aC a8)(o:a8)(r:aC a8)(id:aR)(f:aZ)(T:au)(Q:aZ->au->Prop):a3 AR->Prop
 |some (.val v _)=>fB o f b=true/\bI v v=true/\dm f o.dst v fun f' =>bW P lib b all r id f' T Q
 |_=>False
def kY (P:ao)(lib:aD)(b:aR)(all r:aC a8)(id:aR)(f:aZ)(T:au)(d:a3 Tmp)(Q:aZ->au->Prop):a3 (an×kM)->Prop
 |some (v,bl)=>dm f d v fun f' =>bW P lib b all r (id+1) f' (T.put id (.eE bl)) Q
 |none=>False
def gk (P:ao)(lib:aD)(b:aR)(all r:aC a8)(id:aR)(f:aZ)(d:a3 Tmp)(T:au)(Q:aZ->au->Prop):a3 AR->Prop
 |some (.val v T')=>aw b T T' /\dm f d v fun f' =>bW P lib b all r id f' T' Q
 |some (.call g args)=>Runs P lib g args T fun v T' =>aw b T T' /\dm f d v fun f' =>bW P lib b all r id f' T' Q
 |none=>False
def fq (P:ao)(lib:aD)(b:aR)(all r:aC a8)(id:aR)(f:aZ)(d:a3 Tmp)(Q:aZ->au->Prop)(v:an)(T' :au):Prop:=dm f d v fun f' =>bW P lib b all r id f' T' Q
def gR (P:ao)(lib:aD)(b:aR)(all:aC a8)(o:a8)(r:aC a8)(id:aR)(f:aZ)(T:au)(Q:aZ->au->Prop):b4->Prop
 |true=>bif aS P o then mj P lib b all o r id f T Q (cV P o f T) else bif aJ P o then kY P lib b all r id f T o.dst Q (dh id (cV P o f ⟨.nil,id⟩)) else gk P lib b all r id f o.dst T Q (cV P o f T)
 |false=>dm f o.dst undef fun f' =>bW P lib b all r (if aJ P o then id+1 else id) f' T Q
section
variable (P:ao) (lib:aD) (b:aR) (all:aC a8) (r:aC a8) (id:aR) (f:aZ) (T:au) (Q:aZ->au->Prop)
theorem iK:bW P lib b all [] id f T Q=Q f T:=by simp only[bW]
theorem gy (o:a8):bW P lib b all (o::r) id f T Q=gR P lib b all o r id f T Q (cH all o f):=by
 simp only[bW];cases cH all o f with
 |false=>rfl
 |true=>
  simp only[gR];cases aS P o with
  |true=>
   simp only[cond_true];cases cV P o f T with
   |none=>rfl
   |some a=>cases a<;>rfl
  |false=>
   cases aJ P o with
   |true=>
    simp only[cond_true,cond_false];cases dh id (cV P o f ⟨.nil,id⟩) with
    |none=>rfl
    |some a=>rfl
   |false=>
    simp only[cond_false];cases cV P o f T with
    |none=>rfl
    |some a=>cases a<;>rfl
variable (d:a3 Tmp) (ty:av) (ps:String) (af:et Edge) (gd:a3 (aR×b4))
theorem pt (o:a8):gR P lib b all o r id f T Q true=bif aS P o then mj P lib b all o r id f T Q (cV P o f T) else bif aJ P o then kY P lib b all r id f T o.dst Q (dh id (cV P o f ⟨.nil,id⟩)) else gk P lib b all r id f o.dst T Q (cV P o f T):=rfl
theorem mm (o:a8):gR P lib b all o r id f T Q true=if aS P o=true then mj P lib b all o r id f T Q (cV P o f T) else if aJ P o=true then kY P lib b all r id f T o.dst Q (dh id (cV P o f ⟨.nil,id⟩)) else gk P lib b all r id f o.dst T Q (cV P o f T):=by
 rw[pt];cases aS P o<;>cases aJ P o<;>rfl
theorem ez (op:Op)(t:Tmp):gR P lib b all ⟨some t,op,ty,ps,af,gd⟩ r id f T Q false=if t<f.n then bW P lib b all r (if aJ P ⟨some t,op,ty,ps,af,gd⟩ then id+1 else id) (f.put t undef) T Q else False:=by
 simp only[gR,dJ]
theorem mn (o:Op)(t:Tmp)(v:an)(s' :au):mj P lib b all ⟨some t,o,ty,ps,af,gd⟩ r id f T Q (some (.val v s'))=if fB ⟨some t,o,ty,ps,af,gd⟩ f b=true/\bI v v=true/\t<f.n then bW P lib b all r id (f.put t v) T Q else False:=by
 simp only[mj,dJ];by_cases h0:fB ⟨some t,o,ty,ps,af,gd⟩ f b=true<;>by_cases h1:bI v v=true<;>by_cases h2:t<f.n<;>simp[h0,h1,h2]
theorem ke (g:FuncId)(args:aC an):gk P lib b all r id f d T Q (some (.call g args))=Runs P lib g args T (fun v T' =>aw b T T' /\fq P lib b all r id f d Q v T'):=rfl
theorem kh (t:Tmp)(v:an)(s' :au):fq P lib b all r id f (some t) Q v s' =if t<f.n then bW P lib b all r id (f.put t v) s' Q else False:=by
 simp only[fq,dJ]
theorem ki (v:an):gk P lib b all r id f d T Q (some (.val v T))=fq P lib b all r id f d Q v T:=by
 simp only[gk,fq,aw.refl,ed]
theorem kj (v:an)(s' :au):fq P lib b all r id f none Q v s' =bW P lib b all r id f s' Q:=rfl
theorem rq (v:an)(bl:kM):kY P lib b all r id f T d Q (some (v,bl))=fq P lib b all r (id+1) f d Q v (T.put id (.eE bl)):=rfl
theorem uz (x:a0):fB ⟨d,.move x,ty,ps,af,gd⟩ f b=true:=rfl
theorem pw (x:a0):fB ⟨d,.assign x,ty,ps,af,gd⟩ f b=true:=rfl
theorem uA (x y z:a0):fB ⟨d,.pick x y z,ty,ps,af,gd⟩ f b=true:=rfl
theorem mP (x:a0):fB ⟨d,.nilCheck x,ty,ps,af,gd⟩ f b=true:=rfl
theorem ru (o:BinOp)(t:av)(x y:a0)(u:av):fB ⟨d,.binOp o t x y u,ty,ps,af,gd⟩ f b=true:=rfl
theorem uB (o:UnOp)(t:av)(x:a0):fB ⟨d,.unOp o t x,ty,ps,af,gd⟩ f b=true:=rfl
theorem nV (t u:av)(x:a0):fB ⟨d,.convert t u x,ty,ps,af,gd⟩ f b=true:=rfl
theorem kZ (t:av)(x:a0)(i:aR):fB ⟨d,.fieldAddr t x i,ty,ps,af,gd⟩ f b=true:=rfl
theorem ry (t:av)(x:a0)(i:aR):fB ⟨d,.field t x i,ty,ps,af,gd⟩ f b=true:=rfl
theorem lg (t:av)(x y:a0):fB ⟨d,.indexAddr t x y,ty,ps,af,gd⟩ f b=true:=rfl
theorem rz (t:av)(x y:a0):fB ⟨d,.index t x y,ty,ps,af,gd⟩ f b=true:=rfl
theorem nW (x:a0)(i:aR):fB ⟨d,.extract x i,ty,ps,af,gd⟩ f b=true:=rfl
theorem uC (t:av)(x:a0):fB ⟨d,.load t x,ty,ps,af,gd⟩ f b=di b (a5 f x):=rfl
theorem yK (args:et a0)(ts:et av):fB ⟨d,.call ⟨.builtin .len,args,ts⟩,ty,ps,af,gd⟩ f b=tt (ad f args.toList):=rfl
theorem nX (x:eu):tt (some [.string x])=true:=rfl
theorem rA (t:av)(x:a0)(lo hi mx:a3 a0):fB ⟨d,.slice t x lo hi mx,ty,ps,af,gd⟩ f b=di b (a5 f x):=rfl
end
def kO (P:ao)(o:a8):b4:= !dD o&& !aJ P o
def px (P:ao)(ops:aC a8):b4:=
 let ms:=b9 ops []
 ops.zipIdx.all fun x=>
  (ops.zipIdx.all fun y=> !aJ P y.1||(bif cd y.2 x.2 then !kO P x.1||ax (cW ms x.2) y.2 else !Nat.testBit (cW ms x.2) y.2))&&
  (!(aS P x.1&& !dD x.1)||(cm (countP (fun j=> !Nat.testBit (cW ms j) x.2) P ops 0) (countP (fun j=>cd j x.2) P ops 0)&&ca (countP (ax (cW ms x.2)) P ops 0) (countP (fun j=>cd j x.2) P ops 0)))
structure gS (s0:au) (K:aR) (i id:aR) (ars:aC (aR×aR×kM)) (T U:au):Prop extends Stands s0 K i id ars T U where
 DW:aw s0.next s0 T
 DX:aw s0.next s0 U
 ids:∀x∈ars,s0.next<=x.2.1
theorem vy {P:ao}{o:a8}(h:dD o=true):aS P o=true:=by
 cases hp:fA o with
 |true=>exact wZ hp
 |false=>
  simp only[dD,hp,cJ] at h;obtain⟨dst,op,type,pos,after,guard⟩:=o;cases op<;>simp only[Hd] at h<;>try (cases h;done)
  case call cl=>
   obtain⟨callee,args,ts⟩:=cl;cases callee with
   |builtin bi=>cases bi<;>simp only at h<;>first|rfl|(cases h;done)
   |_=>simp at h
  all_goals rfl
theorem lj {P:ao}{lib:aD}{all:aC a8}(s0:au)(nv:aC aR){Q:aZ->au->Prop}
  (MP:∀(o:a8) (i:aR),all[i]?=some o->aS P o=true->dD o=false->countP (fun j=> !Nat.testBit (cW nv j) i) P all 0<=fG P all i/\countP (ax (cW nv i)) P all 0=fG P all i)
  (DT:∀(o p:a8) (i j:aR),all[i]?=some o->all[j]?=some p->aJ P p=true->j<i->kO P o=true->ax (cW nv i) j=true)
  (MQ:∀(o p:a8) (i j:aR),all[i]?=some o->all[j]?=some p->aJ P p=true->i<=j->ax (cW nv i) j=false):
  ∀(l pre:aC a8) (ms:aC aR) (id:aR) (f:aZ) (T U:au) (ars:aC (aR×aR×kM)),all=pre++l->ms=nv.drop pre.length->ms.length=l.length->id+aO P l<=s0.next+aO P all->gS s0 (aO P all) pre.length id ars T U->(∀x∈ars,∃p,all[x.1]?=some p/\aJ P p=true)->bW P lib s0.next all l id f U Q->
  ∃es f' T' U',(∃n,∀m,n<=m->cf P (iZ P lib m) all ms l pre.length id f T ars=some es)/\(aE P l es T).getLastD T=T' /\bV l es f=f' /\Cl.fill (fun _=>true) T' (ars++madeOf es pre.length)=U' /\
   (∀x∈madeOf es pre.length,pre.length<=x.1/\∃p,all[x.1]?=some p/\aJ P p=true)/\
   (∀x∈aE P l es T,aw s0.next s0 x)/\(∀jn before,jn=before++aE P l es T->(∀x∈jn,aw s0.next s0 x)->before.length=fG P pre pre.length->bO P all nv (ars++madeOf es pre.length) jn ms l es pre.length f=true)/\bQ s0 U' /\Q f' U' :=by
 intro l
 induction l with
 |nil=>
  intro pre ms id f T U ars _ _ hl _ aF _ hw;rw[iK] at hw;cases ms with
  |cons m r=>simp at hl
  |nil=>exact⟨[],f,T,U,⟨0,fun _ _=>rfl⟩,rfl,rfl,by simp only[madeOf,dI];exact aF.fill _ (fun _ _=>rfl),(fun x hx=>by simp[madeOf] at hx),(fun x hx=>by simp only[aE,a1] at hx;rw[hx];exact aF.DW),fun _ _ _ _ _=>rfl,aF.keeps,hw⟩
 |cons o r ih=>
  intro pre ms id f T U ars kE Ci hl fM aF has hw;cases ms with
  |nil=>simp at hl
  |cons m ms=>
  have xN:ms.length=r.length:=by simpa using hl
  have mM:all=(pre++[o])++r:=by rw[kE,bq];rfl
  have dk:(pre++[o]).length=pre.length+1:=by simp
  have sk:ms=nv.drop (pre++[o]).length:=by
   rw[dk,<-ek,<-Ci];rfl
  have MR:cW nv pre.length=m:=by
   have ny:∀(L:aC aR) (k:aR) (x:aR) (t:aC aR),L.drop k=x::t->cW L k=x:=by
    intro L
    induction L with
    |nil=>intro k x t h;simp at h
    |cons y L FU=>
     intro k x t h;cases k with
     |zero=>simp at h;exact h.1
     |succ k=>simp only[b5] at h;simp only[cW];exact FU k x t h
   exact ny nv pre.length m ms Ci.symm
  have jq:all[pre.length]?=some o:=by rw[kE];simp
  have Bc:fG P all pre.length=fG P pre pre.length:=by rw[kE,qb]
  have vM:=vv P o pre;have jA:∀(v:an) (MS:aR) (U' :au),(dm f o.dst v fun f' =>bW P lib s0.next all r MS f' U' Q)->∃f1,my f o.dst v=some f1/\bW P lib s0.next all r MS f1 U' Q:=by
   intro v MS U' h;unfold dm at h;split at h
   ·exact⟨_,‹_›,h⟩
   exact h.elim
  have ga:aO P (o::r)=if aJ P o then aO P r+1 else aO P r:=rfl
  have pq:kO P o=true->Cl.fill (ax m) T ars=U:=fun hn=>aF.fill _ (fun x hx=>by
   obtain⟨p,hp,Ig⟩:=has x hx;rw[<-MR];exact DT o p pre.length x.1 jq hp Ig (aF.before x hx) hn)
  rw[gy] at hw;cases pV:cH all o f with
  |false=>
   rw[pV] at hw;obtain⟨f1,hp,hw⟩:=jA _ _ _ hw;have fN:gS s0 (aO P all) (pre++[o]).length (if aJ P o then id+1 else id) ars T U:=by
    refine⟨⟨aF.fill,aF.here,fun x hx=>by have:=aF.before x hx;omega,by have:=aF.lo;split<;>omega,fun k hk qP=>aF.free k (by split at hk<;>omega) qP,aF.next,aF.keeps⟩,aF.DW,aF.DX,aF.ids⟩
   obtain⟨es,f',T',U',⟨n,h1⟩,h3,h4,hf,mN,ln,h5,hk,h6⟩:=ih (pre++[o]) ms _ f1 T U ars mM sk xN (by rw[ga] at fM;split<;>split at fM<;>first|omega|contradiction) fN has hw;rw[dk] at h1 h5 hf mN;refine⟨.skip::es,f',T',U',⟨n,fun q hq=> ?_⟩,?_,by simp only[bV,Ev.val,hp,h4],by simp only[madeOf];exact hf,(fun x hx=>by simp only[madeOf] at hx;obtain⟨a,b⟩:=mN x hx;exact⟨by omega,b⟩),(fun x hx=>by
    simp only[aE] at hx;split at hx
    ·rcases cc.mp hx with rfl|hx
     ·exact aF.DW
     exact ln x hx
    exact ln x hx),fun jn before hs jJ hb=> ?_,hk,h6⟩
   ·simp only[cf,dH,pV,Ev.val,hp];rw[h1 q hq]
   ·simp only[aE];split
    ·obtain⟨rr,hr⟩:=dC P r es T;rw[hr] at h3|-
     rw[a2] at h3|-
     rw[a2];exact h3
    exact h3
   simp only[bO,Ev.val,hp,bt,madeOf];simp only[aE] at hs;split at hs
   ·rename_i he;refine h5 jn (before++[T]) (by rw[hs,bq];rfl) jJ ?_;rw[<-dk,vM,cA he,cg,hb];rfl
   rename_i he;refine h5 jn before hs jJ ?_;rw[<-dk,vM,ck he,hb]
  |true=>
   rw[pV] at hw;cases hq:aS P o with
   |true=>
    simp only[gR,hq,cond_true] at hw;have cE:=iI hq;have Fp:=jB hq;rw[ga,ck (by simp[Fp])] at fM;unfold mj at hw;split at hw
    case h_2=>exact hw.elim
    rename_i v s1 er;obtain⟨mA,hv,hw⟩:=hw;obtain⟨f1,hp,hw⟩:=jA _ _ _ hw;have fN:gS s0 (aO P all) (pre++[o]).length id ars T U:=⟨⟨aF.fill,aF.here,fun x hx=>by have:=aF.before x hx;omega,aF.lo,aF.free,aF.next,aF.keeps⟩,aF.DW,aF.DX,aF.ids⟩;obtain⟨es,f',T',U',⟨n,h1⟩,h3,h4,hf,mN,ln,h5,hk,h6⟩:=ih (pre++[o]) ms id f1 T U ars mM sk xN fM fN has hw;rw[dk] at h1 h5 hf mN;have m8:∃s2,cV P o f (Cl.fill (ax m) T ars)=some (.val v s2):=by
     cases kJ:dD o with
     |true=>exact⟨_,rp kJ mA aF.DX (aF.DW.trans (nA _ _ _ _ aF.ids)) er⟩
     |false=>exact⟨s1,by rw[pq (by simp[kO,kJ,Fp])];exact er⟩
    obtain⟨s2,m8⟩:=m8;refine⟨.quiet v::es,f',T',U',⟨n,fun q z7=> ?_⟩,?_,by simp only[bV,Ev.val,hp,h4],by simp only[madeOf];exact hf,(fun x hx=>by simp only[madeOf] at hx;obtain⟨a,b⟩:=mN x hx;exact⟨by omega,b⟩),(fun x hx=>ln x (by simpa [aE,cE] using hx)),fun jn before hs jJ hb=> ?_,hk,h6⟩
    ·simp only[cf,dH,pV,hq,m8,Ev.val,hp,Fp];rw[ck (by simp),h1 q z7]
    ·simp only[aE,cE];simpa using h3
    have tQ:jn=before++aE P r es T:=by simpa [aE,cE] using hs
    simp only[bO,Ev.val,hp,madeOf];rw[h5 jn before tQ jJ (by rw[<-dk,vM,ck (by simp[cE]),hb]),cD];have hfw:∀X:au,Cl.fill (ax m) X (ars++madeOf es (pre.length+1))=Cl.fill (ax m) X ars:=by
     intro X;rw[jh,vw _ (madeOf es (pre.length+1))];intro x hx;obtain⟨a,p,Tf,Ig⟩:=mN x hx;rw[<-MR];exact MQ o p pre.length x.1 jq Tf Ig (by omega)
    have tP:∀(L:aC au),(∀x∈L,aw s0.next s0 x)->(dD o=false->∀x∈L,x=T)->sameAt P m (ars++madeOf es (pre.length+1)) o f v L=true:=by
     intro L
     induction L with
     |nil=>intro _ _;rfl
     |cons x L FU=>
      intro kA hx;simp only[sameAt,hfw];have:∃s3,cV P o f (Cl.fill (ax m) x ars)=some (.val v s3):=by
       cases kJ:dD o with
       |true=>exact⟨_,rp kJ mA aF.DX ((kA x (bb ..)).trans (nA _ _ _ _ aF.ids)) er⟩
       |false=>rw[hx kJ x (bb ..)];exact⟨s2,m8⟩
      obtain⟨s3,iT⟩:=this;rw[iT];simp only[hv,bt];exact FU (fun y hy=>kA y (bw _ hy)) (fun kJ y hy=>hx kJ y (bw _ hy))
    refine tP _ (fun x hx=>jJ x (c0 (c3 hx))) (fun kJ x hx=> ?_);obtain⟨t1,t2⟩:=MP o pre.length jq hq kJ;rw[MR] at t2;rw[t2] at hx;obtain⟨rr,hr⟩:=dC P r es T;rw[Bc,<-hb,en,tQ,hr,eo] at hx;have oK:countP (fun j=> !Nat.testBit (cW nv j) pre.length) P all 0+1-before.length<=1:=by omega
    generalize countP (fun j=> !Nat.testBit (cW nv j) pre.length) P all 0+1-before.length=k at hx oK;cases k with
    |zero=>simp at hx
    |succ k=>
     obtain rfl:k=0:=by omega
     simpa using hx
   |false=>
    cases ha:aJ P o with
    |true=>
     simp only[gR,hq,ha,cond_true,cond_false] at hw;rw[ga,cA ha] at fM;have cE:bh P o=false:=by simp[bh,ha]
     unfold kY at hw;split at hw
     case h_2=>exact hw.elim
     rename_i v b er;obtain⟨f1,hp,hw⟩:=jA _ _ _ hw;have MT:∃s1,cV P o f ⟨.nil,id⟩=some (.val v s1)/\s1.bL id=some b:=by
      unfold dh at er;split at er
      ·rename_i v1 s1 h1;split at er
       ·rename_i b1 fp;injection er with er;injection er with e1 e2;subst e1;subst e2
        exact⟨s1,h1,fp⟩
       cases er
      cases er
     obtain⟨s1,zt,iV⟩:=MT;have jg:=aF.free id (aY _) (by omega);have a7:id<U.next:=by have:=aF.next;omega
     have fN:gS s0 (aO P all) (pre++[o]).length (id+1) (ars++[(pre.length,id,b)]) T (U.put id (.eE b)):=by
      refine⟨⟨fun p hp=> ?_,fun x hx=> ?_,fun x hx=> ?_,by have:=aF.lo;omega,fun k hk qP=> ?_,by have:=aF.next;simpa [au.put] using this,?_⟩,aF.DW,aF.DX.trans ⟨aY _,fun i hi=>au.bo _ _ _ _ (by have:=aF.lo;omega)⟩,fun x hx=> ?_⟩
      ·rw[jh,aF.fill p (fun x hx=>hp x (c4 _ hx))];have SU:p pre.length=true:=hp (pre.length,id,b) (cU _ (bb ..));simp only[Cl.fill,SU,jg]
      ·rcases bz.mp hx with hx|hx
       ·have hh:=aF.here x hx;have:x.2.1≠id:=fun e=>hh (by rw[e];exact jg)
        rw[au.bo _ _ _ _ (Ne.symm this)];exact hh
       rw[a1] at hx;subst hx
       simp only[au.put,Tr.bF _ _ _ _ (deep (by omega))];simp
      ·rcases bz.mp hx with hx|hx
       ·have:=aF.before x hx;omega
       rw[a1] at hx;subst hx;simp
      ·rw[au.bo _ _ _ _ (by omega)];exact aF.free k (by omega) qP
      ·have hk:=aF.keeps;refine⟨hk.next,fun j hj hn=> ?_,fun j hj=> ?_,⟨by omega,fun j ob hj=> ?_⟩⟩
       ·have:=aF.lo;rw[au.bo _ _ _ _ (by omega)];exact hk.gone j hj hn
       ·by_cases gD:id=j
        ·subst gD;simp only[au.put,Tr.bF _ _ _ _ (deep (by omega))];simp
        rw[au.bo _ _ _ _ gD];exact hk.here j hj
       by_cases gD:id=j
       ·subst gD;simpa [au.put] using a7
       rw[au.bo _ _ _ _ gD] at hj;have:=hk.wf.bound j ob hj;simpa [au.put] using this
      rcases bz.mp hx with hx|hx
      ·exact aF.ids x hx
      rw[a1] at hx;subst hx;exact aF.lo
     have MU:∀x∈ars++[(pre.length,id,b)],∃p,all[x.1]?=some p/\aJ P p=true:=by
      intro x hx;rcases bz.mp hx with hx|hx
      ·exact has x hx
      rw[a1] at hx;subst hx;exact⟨o,jq,ha⟩
     obtain⟨es,f',T',U',⟨n,h1⟩,h3,h4,hf,mN,ln,h5,hk,h6⟩:=ih (pre++[o]) ms (id+1) f1 T _ _ mM sk xN (by omega) fN MU hw;rw[dk] at h1 h5 hf mN;have Tz:∀L,ars++(pre.length,id,b)::L=(ars++[(pre.length,id,b)])++L:=fun L=>by rw[bq];rfl
     refine⟨.made v id b::es,f',T',U',⟨n,fun q z7=> ?_⟩,?_,by simp only[bV,Ev.val,hp,h4],by simp only[madeOf];rw[Tz];exact hf,(fun x hx=> ?_),(fun x hx=>ln x (by simpa [aE,cE] using hx)),fun jn before hs jJ hb=> ?_,hk,h6⟩
     ·simp only[cf,dH,pV,hq,ha,zt,iV,Ev.val,hp,c5];rw[h1 q z7]
     ·simp only[aE,cE];simpa using h3
     ·simp only[madeOf] at hx;rcases cc.mp hx with rfl|hx
      ·exact⟨aY _,o,jq,ha⟩
      obtain⟨a,c⟩:=mN x hx;exact⟨by omega,c⟩
     simp only[bO,Ev.val,hp,bt,madeOf];rw[Tz];have tQ:jn=before++aE P r es T:=by simpa [aE,cE] using hs
     exact h5 jn before tQ jJ (by rw[<-dk,vM,ck (by simp[cE]),hb])
    |false=>
     simp only[gR,hq,ha,cond_false] at hw;rw[ga,ck (by simp[ha])] at fM;have he:bh P o=true:=by simp[bh,hq,ha]
     have kJ:dD o=false:=by
      cases kJ:dD o with
      |false=>rfl
      |true=>rw[vy kJ] at hq;cases hq
     have hU:=pq (by simp[kO,kJ,ha]);have fin:∀(v:an) (U1:au) (n0:aR),(∀q,n0<=q->dH P (iZ P lib q) all m id ars o f T=some (.BH v U1))->bQ U U1->aw s0.next U U1->(dm f o.dst v fun f' =>bW P lib s0.next all r id f' U1 Q)->
       ∃es f' T' U',(∃n,∀m',n<=m' ->cf P (iZ P lib m') all (m::ms) (o::r) pre.length id f T ars=some es)/\(aE P (o::r) es T).getLastD T=T' /\bV (o::r) es f=f' /\Cl.fill (fun _=>true) T' (ars++madeOf es pre.length)=U' /\
        (∀x∈madeOf es pre.length,pre.length<=x.1/\∃p,all[x.1]?=some p/\aJ P p=true)/\
        (∀x∈aE P (o::r) es T,aw s0.next s0 x)/\(∀jn before,jn=before++aE P (o::r) es T->(∀x∈jn,aw s0.next s0 x)->before.length=fG P pre pre.length->bO P all nv (ars++madeOf es pre.length) jn (m::ms) (o::r) es pre.length f=true)/\bQ s0 U' /\Q f' U' :=by
      intro v U1 n0 hd z8 He hw;obtain⟨f1,hp,hw⟩:=jA _ _ _ hw;have ux:∀x∈ars,U1.heap.get x.2.1≠none:=fun x hx=>z8.here _ (aF.here x hx)
      have fN:gS s0 (aO P all) (pre++[o]).length id ars U1 U1:=by
       refine⟨⟨fun p hp=>vx p ars U1 ux,ux,fun x hx=>by have:=aF.before x hx;omega,aF.lo,fun k hk qP=>z8.gone k (by have:=aF.next;omega) (aF.free k hk qP),by have:=aF.next;have:=z8.next;omega,aF.keeps.trans z8⟩,aF.DX.trans He,aF.DX.trans He,aF.ids⟩
      obtain⟨es,f',T',U',⟨n,h1⟩,h3,h4,hf,mN,ln,h5,hk,h6⟩:=ih (pre++[o]) ms id f1 U1 U1 ars mM sk xN fM fN has hw;rw[dk] at h1 h5 hf mN;refine⟨.BH v U1::es,f',T',U',⟨n+n0,fun q z7=> ?_⟩,?_,by simp only[bV,Ev.val,hp,h4],by simp only[madeOf];exact hf,(fun x hx=>by simp only[madeOf] at hx;obtain⟨a,b⟩:=mN x hx;exact⟨by omega,b⟩),(fun x hx=>by
       simp only[aE] at hx;rcases cc.mp hx with rfl|hx
       ·exact aF.DW
       exact ln x hx),fun jn before hs jJ hb=> ?_,hk,h6⟩
      ·simp only[cf,hd q (by omega),Ev.val,hp,ha];rw[ck (by simp),h1 q (by omega)]
      ·simp only[aE];obtain⟨rr,hr⟩:=dC P r es U1;rw[hr] at h3|-
       rw[a2] at h3|-
       rw[a2];exact h3
      simp only[bO,Ev.val,hp,bt,madeOf];simp only[aE] at hs;refine h5 jn (before++[T]) (by rw[hs,bq];rfl) jJ ?_;rw[<-dk,vM,cA he,cg,hb];rfl
     unfold gk at hw;split at hw
     case h_3=>exact hw.elim
     ·rename_i v U1 er;obtain⟨He,hw⟩:=hw;exact fin v U1 0 (fun q _=>by simp only[dH,pV,hq,ha,hU,er]) (qS aF.keeps.wf er) He hw
     rename_i g args er;obtain⟨v,U1,⟨nc,hc⟩,z8,He,hw⟩:=hw aF.keeps.wf;exact fin v U1 nc (fun q z7=>by simp only[dH,pV,hq,ha,hU,er,hc q z7]) z8 He hw
theorem cN.loose {P:ao}{lib:aD}{ops:aC a8}(ht:px P ops=true){f:aZ}{s:au}{Q:aZ->au->Prop}(h:bW P lib s.next ops ops s.next f (spare s (aO P ops)) Q):cN P lib ops f s Q:=by
 intro pZ;simp only[px,dA,cb,dK,dw] at ht;have mB:∀(o:a8) (i:aR),ops[i]?=some o->(o,i)∈ops.zipIdx:=fun o i hi=>by rw[cx];simpa using hi
 have Ci:(b9 ops []).length=ops.length:=by
  obtain⟨r,h1,h2⟩:=mg ops [];rw[h1];simpa using h2
 have jg:∀k,s.next<=k->s.heap.get k=none:=fun k oK=>by
  cases hg:s.heap.get k with
  |none=>rfl
  |some o=>have:=pZ.bound k o hg;omega
 have Jv:bQ s (spare s (aO P ops)):=⟨by simp[spare],fun _ _ h=>h,fun _ h=>h,⟨by omega,fun j o hj=>by have:=pZ.bound j o hj;simp only[spare];omega⟩⟩;obtain⟨es,f',T',U',⟨n,h1⟩,h3,h4,hf,mN,ln,h5,hk,h6⟩:=lj (P:=P) (lib:=lib) (all:=ops) s (b9 ops []) (Q:=Q) (fun o i hi hq hp=>by
   have:=(ht (o,i) (mB o i hi)).2;have Ce:=kX P ops 0 i;rw[cT] at Ce;rcases this with h|h
   ·simp[hq,hp] at h
   obtain⟨t1,t2⟩:=h;rw[Ce] at t1 t2;exact⟨by simpa [ea] using t1,by simpa [dg] using t2⟩)
  (fun o p i j hi hj ha gD hn=>by
   have:=(ht (o,i) (mB o i hi)).1 (p,j) (mB p j hj);have hb:cd j i=true:=by simpa [bA] using gD
   simp only[ha,hb,cond_true,hn] at this
   simpa using this)
  (fun o p i j hi hj ha Dd=>by
   have:=(ht (o,i) (mB o i hi)).1 (p,j) (mB p j hj);have hb:cd j i=false:=by rw[<-cM,bA];omega
   simp only[ha,hb,cond_false] at this
   simpa using this)
  ops [] (b9 ops []) s.next f (spare s (aO P ops)) (spare s (aO P ops)) [] rfl rfl Ci (by omega)
  ⟨⟨fun _ _=>rfl,fun _ hx=>(by cases hx),fun _ hx=>(by cases hx),aY _,fun k oK _=>jg k oK,by simp[spare],Jv⟩,aw.spare _ _,aw.spare _ _,fun _ hx=>(by cases hx)⟩ (fun _ hx=>(by cases hx)) h
 simp only[cv,dP] at h1 h5 hf mN;refine⟨f',U',⟨n,fun m hm=> ?_⟩,hk,h6⟩;unfold iC;have MD:=h1 m hm;have hb:cm 0 16000000=true:=rfl;simp only[];show(match cf P (iZ P lib m) ops (b9 ops []) ops 0 s.next f (spare s (aO P ops)) [] with
  |some es=>match bO P ops (b9 ops []) (madeOf es 0) (aE P ops es (spare s (aO P ops))) (b9 ops []) ops es 0 f with
   |true=>some (bV ops es f,Cl.fill (fun _=>true) ((aE P ops es (spare s (aO P ops))).getLastD s) (madeOf es 0))
   |false=>none
  |none=>none)=_
 rw[MD];have h5' :=h5 (aE P ops es (spare s (aO P ops))) [] rfl ln rfl;simp only[h5',h4];obtain⟨rr,hr⟩:=dC P ops es (spare s (aO P ops));rw[hr] at h3|-
 rw[a2] at h3|-
 rw[h3,hf]
theorem cN.dx {P:ao}{lib:aD}{ops:aC a8}{f:aZ}{s:au}{Q:aZ->au->Prop}(k:aR)(ht:px P ops=true)(hk:ca (aO P ops) k=true)(h:bW P lib s.next ops ops s.next f (spare s k) Q):AL P lib ops f s Q false:=by
 have:aO P ops=k:=by simpa [dg] using hk
 exact cN.loose ht (by rw[this];exact h)
section
variable {P:ao} {lib:aD} {b:aR} {all r:aC a8} {id:aR} {f:aZ} {T:au} {d:a3 Tmp} {Q:aZ->au->Prop}
theorem bR {cs:aC an}{n z base:aR}(h:cs.length=n*z)(fM:id<T.next)(hb:base<=id)
  (K:∀v T',Own T' z v n cs->aI v=some id->aw base T T' ->T'.next=T.next->(∀j,j≠id->T'.heap.get j=T.heap.get j)->fq P lib b all r (id+1) f d Q v T'):kY P lib b all r id f T d Q (dh id (oU (a6 ⟨.nil,id⟩ cs n z))):=by
 have e:dh id (oU (a6 ⟨.nil,id⟩ cs n z))=some (.slice (some ⟨id,0,none⟩) n (cs.length+1),⟨cs,1,true,z⟩):=by
  have:a6 ⟨.nil,id⟩ cs n z=some (.slice (some ⟨id,0,none⟩) n (cs.length+1),(⟨.nil,id⟩:au).new (.eE ⟨cs,1,true,z⟩)):=by simp[a6,au.room]
  rw[this,eU];have hb:((⟨.nil,id⟩:au).new (.eE ⟨cs,1,true,z⟩)).bL id=some ⟨cs,1,true,z⟩:=oM ⟨.nil,id⟩ _;simp only[dh,hb]
 rw[e,rq];have zI:∀j,j≠id->(T.put id (.eE ⟨cs,1,true,z⟩)).heap.get j=T.heap.get j:=fun j hj=>au.bo _ _ _ _ (Ne.symm hj)
 refine K _ _ (.of id n 1 cs (by simpa [au.put] using fM) (au.cC _ _ _ (by omega)) (by omega) h) rfl ⟨aY _,fun j hj=>zI j (by omega)⟩ rfl zI
theorem eY {st xt e:av}{xd:TypeDesc}{z kH:aR}{zv:an}(hu:P.underlying st=some (.slice e))(Cm:P.underlying xt=some xd)(wS:(∃e2,xd= .slice e2)\/xd= .string)(cX:br P e=some z)(oC:dX P e=some kH)(qu:b6 P e=some zv)(tq:ca zv.cells.toList.length z=true)
  {x y:an} {n m:aR} {l new:aC an} (hx:Own T z x n l) (hy:dU T z y=some (m,new)) (gM:new.length=m*z) (tE:0<z) (gF:new.all aT=true) (fp:(n+m)*kH<=140737488355328) (dr:n+m<=140737488355328) (hF:aM b x) (hB:b<=T.next)
  (K:∀x' T',Own T' z x' (n+m) (l++new)->aM b x' ->aw b T T' ->bG x T T' ->(aI x' =aI x\/∃i,aI x' =some i/\T.next<=i)->fq P lib b all r id f d Q x' T'):gk P lib b all r id f d T Q (oU (eT P T st xt x y)):=by
 obtain⟨x',s',h1,h2,h3,h4⟩:=Own.append hu Cm wS cX oC qu tq hx hy gM tE gF fp dr;rw[h1,eU];have hk:=h3.keeps hF hB;refine⟨hk,K _ _ h2 (fun i hi=> ?_) hk h3 h4⟩;rcases h4 with h4|⟨j,hj,hl⟩
 ·exact hF i (by rw[<-h4];exact hi)
 rw[hj] at hi;injection hi with hi;omega
end
theorem W5:type_of%
 (ab (ab (ab (ab @iK (ab @gy @mm)) (ab @ez (ab @mn @kh)))
 (ab (ab @kj (ab @uz @pw)) (ab @uA (ab @uC @mP)))) (ab (ab (ab
 @ru (ab @uB @nV)) (ab @kZ (ab @ry @lg))) (ab (ab @rz (ab
 @nW @yK)) (ab (ab @rA @nX) (ab @ke @ki))))):=
 (ab (ab (ab (ab @iK (ab @gy @mm)) (ab @ez (ab @mn @kh)))
 (ab (ab @kj (ab @uz @pw)) (ab @uA (ab @uC @mP)))) (ab (ab (ab
 @ru (ab @uB @nV)) (ab @kZ (ab @ry @lg))) (ab (ab @rz (ab
 @nW @yK)) (ab (ab @rA @nX) (ab @ke @ki)))))
namespace LA
structure dz (A:aR->b4) (s s' :au):Prop where
 next:s.next<=s'.next
 get:∀i,A i=true->s'.heap.get i=s.heap.get i
theorem dz.refl (A:aR->b4)(s:au):dz A s s:=⟨aY _,fun _ _=>rfl⟩
theorem dz.trans {A:aR->b4}{s s' Fq:au}(h:dz A s s')(k:dz A s' Fq):dz A s Fq:=⟨ds h.next k.next,fun i hi=>(k.get i hi).trans (h.get i hi)⟩
theorem aw.qI {A:aR->b4}{n:aR}{s s' :au}(hA:∀i,A i=true->i<n)(h:aw n s s'):dz A s s' :=⟨h.next,fun i hi=>h.get i (hA i hi)⟩
def Hd (o:a8):b4:=
 match o.op with
 | .slice _ _ _ _ _=>true
 | .load _ _=>true
 | .call ⟨.builtin .len,_,_⟩=>true
 | .convert _ _ _=>true
 |_=>false
def dD (P:ao)(o:a8):b4:=fA o||(Hd o&&aS P o)
def di (A:aR->b4):a3 an->b4
 |some (.slice (some a) _ c)=>A a.block||ca c 0
 |some (.slice none _ _)=>true
 |some (.string _)=>true
 |some (.pointer (some a))=>A a.block
 |_=>false
def QG (A:aR->b4):a3 an->b4
 |some (.slice a n c)=>di A (some (.slice a n c))
 |_=>true
theorem Kk {A:aR->b4}(k:ev)(n:Int):QG A (some (.int k n))=true:=rfl
theorem Be {A:aR->b4}(b:eu):QG A (some (.string b))=true:=rfl
def tt:a3 (aC an)->b4
 |some [.slice _ _ _]=>true
 |some [.string _]=>true
 |_=>false
def fB (o:a8)(f:aZ)(A:aR->b4):b4:=
 match o.op with
 | .slice _ x _ _ _=>di A (a5 f x)
 | .load _ x=>di A (a5 f x)
 | .call ⟨.builtin .len,args,_⟩=>tt (ad f args.toList)
 | .convert _ _ x=>QG A (a5 f x)
 |_=>true
theorem pr {P:ao}{s t:au}{A:aR->b4}(h:dz A s t){ty:av}{u:an}{lo hi mx:a3 an}(hl:di A (some u)=true):fa P s ty u lo hi mx=fa P t ty u lo hi mx:=by
 unfold fa;generalize P.underlying ty=U;have ee:∀i c,(A i=true\/c=0)->∀z,l5 s i c z=l5 t i c z:=fun i c hi z=>by
  unfold l5;cases c with
  |zero=>rfl
  |succ c=>simp only[au.bL,h.get i (hi.resolve_right (by omega))]
 cases U with
 |none=>rfl
 |some D=>
  cases u with
  |slice a n c=>
   cases a with
   |none=>cases D<;>rfl
   |some a=>
    obtain⟨i,off,sp⟩:=a;have hi:A i=true\/c=0:=by simpa [di,bA] using hl
    cases sp with
    |none=>cases D<;>simp only[ee i c hi]
    |some k=>cases D<;>rfl
  |string x=>cases D<;>rfl
  |pointer a=>
   cases a with
   |none=>simp[di] at hl
   |some a=>
    obtain⟨i,off,sp⟩:=a;have hi:A i=true:=by simpa [di,bA] using hl
    have hb:s.bL i=t.bL i:=by simp only[au.bL,h.get i hi]
    cases sp with
    |none=>cases D<;>rfl
    |some k=>cases D<;>simp only[hb]
  |_=>simp[di] at hl
theorem rn {P:ao}{s t:au}{A:aR->b4}(h:dz A s t){ty:av}{u:an}(hl:di A (some u)=true):aN P s ty u=aN P t ty u:=by
 unfold aN;cases u with
 |pointer a=>
  cases a with
  |none=>rfl
  |some a=>
   obtain⟨i,off,sp⟩:=a;have hi:A i=true:=by simpa [di,bA] using hl
   have hb:∀off c n,s.dG i off c n=t.dG i off c n:=fun off c n=>by simp only[au.dG,au.bL,h.get i hi]
   cases sp with
   |none=>rfl
   |some k=>simp only[hb]
 |_=>rfl
theorem DV {P:ao}{s t:au}{ty:av}{u:an}(hl:tt (some [u])=true):aQ P s ty u=aQ P t ty u:=by
 unfold aQ;generalize P.underlying ty=U;cases U with
 |none=>rfl
 |some D=>
  cases u with
  |slice a n c=>cases D<;>rfl
  |string x=>cases D<;>rfl
  |_=>simp[tt] at hl
theorem QH {P:ao}{s0 s t:au}{A:aR->b4}(hs:dz A s0 s)(ht:dz A s0 t){src dst:av}(hd:∀e,P.underlying dst≠some (.slice e)){u:an}(hl:QG A (some u)=true){v:an}{s' :au}(h:ir P s src dst u=some (v,s')):ir P t src dst u=some (v,t):=by
 unfold ir at h|-
 split at h
 ·cases h;rfl
 ·cases h;rfl
 ·rename_i hh;exact absurd hh (hd _)
 ·rename_i hh;exact absurd hh (hd _)
 ·split at h
  ·rename_i hc;rw[cA hc];cases h;rfl
  cases h
 ·rename_i e i off len c _ _;split at h
  case isFalse=>cases h
  rename_i hc;rw[cA hc];cases len with
  |zero=>cases h;rfl
  |succ n=>
   have hc:A i=true\/c=0:=by simpa [QG,di] using hl
   have he:s.dG i off c (n+1)=t.dG i off c (n+1):=by
    rcases hc with hi|h0
    ·simp only[au.dG,au.bL,hs.get i hi,ht.get i hi]
    subst h0;have hz:∀q:au,q.dG i off 0 (n+1)=none:=fun q=>by
     simp only[au.dG];cases q.bL i with
     |none=>rfl
     |some b=>have:cd (off+(n+1)) 0=false:=by rw[<-cM,bA];omega
              simp[this]
    rw[hz,hz]
   simp only at h|-
   rw[<-he];cases hce:s.dG i off c (n+1) with
   |none=>rw[hce] at h;cases h
   |some l=>
    rw[hce] at h;simp only at h|-
    cases hb:pS l with
    |none=>rw[hb] at h;cases h
    |some bs=>rw[hb] at h;cases h;rfl
 cases h
theorem rp {P:ao}{o:a8}{A:aR->b4}{s0:au}(h:dD P o=true){f:aZ}{s t:au}(hl:fB o f A=true)(hs:dz A s0 s)(ht:dz A s0 t){v:an}{s' :au}(ha:cV P o f s=some (.val v s')):cV P o f t=some (.val v t):=by
 cases hp:fA o with
 |true=>exact uu hp ha
 |false=>
  simp only[dD,hp,cJ,cb] at h;obtain⟨h,hq⟩:=h;obtain⟨dst,op,type,pos,after,guard⟩:=o;have w7:∀{r1 r2:a3 an},r1=r2->qo s r1=some (.val v s')->qo t r2=some (.val v t):=by
   intro r1 r2 e hv;subst e;cases r1 with
   |none=>cases hv
   |some w=>
    rw[uo] at hv;injection hv with hv;injection hv with hv _;subst hv;rfl
  cases op<;>simp only[Hd] at h<;>try (cases h;done)
  case slice ty x lo hi mx=>
   rw[vt] at ha|-
   simp only[fB] at hl;split at ha
   ·rename_i u l hh m hu h2 h3 h4;rw[hu] at hl;have e1:=pr (P:=P) hs (ty:=ty) (lo:=l) (hi:=hh) (mx:=m) hl;have e2:=pr (P:=P) ht (ty:=ty) (lo:=l) (hi:=hh) (mx:=m) hl;exact w7 (by rw[<-e1,<-e2]) ha
   cases ha
  case convert src dst x=>
   rw[ui] at ha|-
   simp only[fB] at hl;split at ha
   ·rename_i u hu;rw[hu] at hl;cases hc:ir P s src dst u with
    |none=>rw[hc] at ha;cases ha
    |some r=>
     obtain⟨w,s1⟩:=r;rw[hc,eU] at ha;injection ha with ha;injection ha with hw _
     subst hw;have hd:∀e,P.underlying dst≠some (.slice e):=fun e he=>by simp[aS,he] at hq
     rw[QH hs ht hd hl hc];rfl
   cases ha
  case load ty x=>
   rw[yx] at ha|-
   simp only[fB] at hl;split at ha
   ·rename_i u hu;rw[hu] at hl;have e1:=rn (P:=P) hs (ty:=ty) hl;have e2:=rn (P:=P) ht (ty:=ty) hl;exact w7 (by rw[<-e1,<-e2]) ha
   cases ha
  case call cl=>
   obtain⟨callee,args,ts⟩:=cl;cases callee with
   |builtin bi=>
    cases bi<;>simp only at h<;>try (cases h;done)
    simp only[fB] at hl;rw[iJ] at ha|-
    cases WT:ad f args.toList with
    |none=>rw[WT] at hl;simp[tt] at hl
    |some vs=>
     rw[WT] at hl ha
     match vs,hl with
     |[u],hl=>
      simp only at ha|-
      unfold jU at ha|-
      split at ha<;>rename_i hts<;>simp_all
      rw[<-DV (P:=P) (s:=s) (t:=t) hl];exact w7 ha
     |[],hl=>simp[tt] at hl
     |a::b::r,hl=>cases a<;>simp[tt] at hl
   |_=>simp at h
theorem nA (p:aR->b4)(A:aR->b4):∀(ars:aC (aR×aR×kM)) (T:au),(∀x∈ars,A x.2.1=false)->dz A T (Cl.fill p T ars):=by
 intro ars
 induction ars with
 |nil=>intro T _;exact dz.refl _ _
 |cons x ars ih=>
  intro T h;obtain⟨j,id,bk⟩:=x;have fM:A id=false:=h (j,id,bk) (bb ..);have hr:=fun y hy=>h y (bw _ hy)
  simp only[Cl.fill];split
  ·exact dz.trans (s' :=T.put id (.eE bk)) ⟨aY _,fun i hi=>au.bo _ _ _ _ (by intro e;subst e;rw[fM] at hi;cases hi)⟩ (ih _ hr)
  exact ih _ hr
def bW (P:ao)(lib:aD)(A:aR->b4)(all:aC a8):aC a8->aR->aZ->au->(aZ->au->Prop)->Prop
 |[],_,f,T,Q=>Q f T
 |o::r,id,f,T,Q=>
  match cH all o f with
  |true=>
   match aS P o,aJ P o with
   |true,_=>
    match cV P o f T with
    |some (.val v _)=>fB o f A=true/\bI v v=true/\dm f o.dst v fun f' =>bW P lib A all r id f' T Q
    |_=>False
   |false,true=>
    match dh id (cV P o f ⟨.nil,id⟩) with
    |some (v,bl)=>dm f o.dst v fun f' =>bW P lib A all r (id+1) f' (T.put id (.eE bl)) Q
    |none=>False
   |false,false=>
    match cV P o f T with
    |some (.val v T')=>dz A T T' /\dm f o.dst v fun f' =>bW P lib A all r id f' T' Q
    |some (.call g args)=>Runs P lib g args T fun v T' =>dz A T T' /\dm f o.dst v fun f' =>bW P lib A all r id f' T' Q
    |none=>False
  |false=>dm f o.dst undef fun f' =>bW P lib A all r (if aJ P o then id+1 else id) f' T Q
def mj (P:ao)(lib:aD)(A:aR->b4)(all:aC a8)(o:a8)(r:aC a8)(id:aR)(f:aZ)(T:au)(Q:aZ->au->Prop):a3 AR->Prop
 |some (.val v _)=>fB o f A=true/\bI v v=true/\dm f o.dst v fun f' =>bW P lib A all r id f' T Q
 |_=>False
def kY (P:ao)(lib:aD)(A:aR->b4)(all r:aC a8)(id:aR)(f:aZ)(T:au)(d:a3 Tmp)(Q:aZ->au->Prop):a3 (an×kM)->Prop
 |some (v,bl)=>dm f d v fun f' =>bW P lib A all r (id+1) f' (T.put id (.eE bl)) Q
 |none=>False
def gk (P:ao)(lib:aD)(A:aR->b4)(all r:aC a8)(id:aR)(f:aZ)(d:a3 Tmp)(T:au)(Q:aZ->au->Prop):a3 AR->Prop
 |some (.val v T')=>dz A T T' /\dm f d v fun f' =>bW P lib A all r id f' T' Q
 |some (.call g args)=>Runs P lib g args T fun v T' =>dz A T T' /\dm f d v fun f' =>bW P lib A all r id f' T' Q
 |none=>False
def fq (P:ao)(lib:aD)(A:aR->b4)(all r:aC a8)(id:aR)(f:aZ)(d:a3 Tmp)(Q:aZ->au->Prop)(v:an)(T' :au):Prop:=dm f d v fun f' =>bW P lib A all r id f' T' Q
def gR (P:ao)(lib:aD)(A:aR->b4)(all:aC a8)(o:a8)(r:aC a8)(id:aR)(f:aZ)(T:au)(Q:aZ->au->Prop):b4->Prop
 |true=>bif aS P o then mj P lib A all o r id f T Q (cV P o f T) else bif aJ P o then kY P lib A all r id f T o.dst Q (dh id (cV P o f ⟨.nil,id⟩)) else gk P lib A all r id f o.dst T Q (cV P o f T)
 |false=>dm f o.dst undef fun f' =>bW P lib A all r (if aJ P o then id+1 else id) f' T Q
section
variable (P:ao) (lib:aD) (A:aR->b4) (all:aC a8) (r:aC a8) (id:aR) (f:aZ) (T:au) (Q:aZ->au->Prop)
theorem iK:bW P lib A all [] id f T Q=Q f T:=by simp only[bW]
theorem gy (o:a8):bW P lib A all (o::r) id f T Q=gR P lib A all o r id f T Q (cH all o f):=by
 simp only[bW];cases cH all o f with
 |false=>rfl
 |true=>
  simp only[gR];cases aS P o with
  |true=>
   simp only[cond_true];cases cV P o f T with
   |none=>rfl
   |some a=>cases a<;>rfl
  |false=>
   cases aJ P o with
   |true=>
    simp only[cond_true,cond_false];cases dh id (cV P o f ⟨.nil,id⟩) with
    |none=>rfl
    |some a=>rfl
   |false=>
    simp only[cond_false];cases cV P o f T with
    |none=>rfl
    |some a=>cases a<;>rfl
variable (d:a3 Tmp) (ty:av) (ps:String) (af:et Edge) (gd:a3 (aR×b4))
theorem pt (o:a8):gR P lib A all o r id f T Q true=bif aS P o then mj P lib A all o r id f T Q (cV P o f T) else bif aJ P o then kY P lib A all r id f T o.dst Q (dh id (cV P o f ⟨.nil,id⟩)) else gk P lib A all r id f o.dst T Q (cV P o f T):=rfl
theorem mm (o:a8):gR P lib A all o r id f T Q true=if aS P o=true then mj P lib A all o r id f T Q (cV P o f T) else if aJ P o=true then kY P lib A all r id f T o.dst Q (dh id (cV P o f ⟨.nil,id⟩)) else gk P lib A all r id f o.dst T Q (cV P o f T):=by
 rw[pt];cases aS P o<;>cases aJ P o<;>rfl
theorem ez (op:Op)(t:Tmp):gR P lib A all ⟨some t,op,ty,ps,af,gd⟩ r id f T Q false=if t<f.n then bW P lib A all r (if aJ P ⟨some t,op,ty,ps,af,gd⟩ then id+1 else id) (f.put t undef) T Q else False:=by
 simp only[gR,dJ]
theorem mn (o:Op)(t:Tmp)(v:an)(s' :au):mj P lib A all ⟨some t,o,ty,ps,af,gd⟩ r id f T Q (some (.val v s'))=if fB ⟨some t,o,ty,ps,af,gd⟩ f A=true/\bI v v=true/\t<f.n then bW P lib A all r id (f.put t v) T Q else False:=by
 simp only[mj,dJ];by_cases h0:fB ⟨some t,o,ty,ps,af,gd⟩ f A=true<;>by_cases h1:bI v v=true<;>by_cases h2:t<f.n<;>simp[h0,h1,h2]
theorem ke (g:FuncId)(args:aC an):gk P lib A all r id f d T Q (some (.call g args))=Runs P lib g args T (fun v T' =>dz A T T' /\fq P lib A all r id f d Q v T'):=rfl
theorem kh (t:Tmp)(v:an)(s' :au):fq P lib A all r id f (some t) Q v s' =if t<f.n then bW P lib A all r id (f.put t v) s' Q else False:=by
 simp only[fq,dJ]
theorem ki (v:an):gk P lib A all r id f d T Q (some (.val v T))=fq P lib A all r id f d Q v T:=by
 simp only[gk,fq,dz.refl,ed]
theorem kj (v:an)(s' :au):fq P lib A all r id f none Q v s' =bW P lib A all r id f s' Q:=rfl
theorem rq (v:an)(bl:kM):kY P lib A all r id f T d Q (some (v,bl))=fq P lib A all r (id+1) f d Q v (T.put id (.eE bl)):=rfl
theorem uz (x:a0):fB ⟨d,.move x,ty,ps,af,gd⟩ f A=true:=rfl
theorem pw (x:a0):fB ⟨d,.assign x,ty,ps,af,gd⟩ f A=true:=rfl
theorem uA (x y z:a0):fB ⟨d,.pick x y z,ty,ps,af,gd⟩ f A=true:=rfl
theorem mP (x:a0):fB ⟨d,.nilCheck x,ty,ps,af,gd⟩ f A=true:=rfl
theorem ru (o:BinOp)(t:av)(x y:a0)(u:av):fB ⟨d,.binOp o t x y u,ty,ps,af,gd⟩ f A=true:=rfl
theorem uB (o:UnOp)(t:av)(x:a0):fB ⟨d,.unOp o t x,ty,ps,af,gd⟩ f A=true:=rfl
theorem nV (t u:av)(x:a0):fB ⟨d,.convert t u x,ty,ps,af,gd⟩ f A=QG A (a5 f x):=rfl
theorem kZ (t:av)(x:a0)(i:aR):fB ⟨d,.fieldAddr t x i,ty,ps,af,gd⟩ f A=true:=rfl
theorem ry (t:av)(x:a0)(i:aR):fB ⟨d,.field t x i,ty,ps,af,gd⟩ f A=true:=rfl
theorem lg (t:av)(x y:a0):fB ⟨d,.indexAddr t x y,ty,ps,af,gd⟩ f A=true:=rfl
theorem rz (t:av)(x y:a0):fB ⟨d,.index t x y,ty,ps,af,gd⟩ f A=true:=rfl
theorem nW (x:a0)(i:aR):fB ⟨d,.extract x i,ty,ps,af,gd⟩ f A=true:=rfl
theorem uC (t:av)(x:a0):fB ⟨d,.load t x,ty,ps,af,gd⟩ f A=di A (a5 f x):=rfl
theorem yK (args:et a0)(ts:et av):fB ⟨d,.call ⟨.builtin .len,args,ts⟩,ty,ps,af,gd⟩ f A=tt (ad f args.toList):=rfl
theorem nX (x:eu):tt (some [.string x])=true:=rfl
theorem bN {i o:aR}{c:a3 aR}(h:A i=true):di A (some (.pointer (some ⟨i,o,c⟩)))=true:=by simpa [di,bA] using h
theorem rA (t:av)(x:a0)(lo hi mx:a3 a0):fB ⟨d,.slice t x lo hi mx,ty,ps,af,gd⟩ f A=di A (a5 f x):=rfl
end
theorem rB {s:au}{z:aR}{v:an}{n:aR}{l:aC an}(h:aU s z v n l):tt (some [v])=true:=by
 cases h<;>rfl
def kO (P:ao)(o:a8):b4:= !dD P o&& !aJ P o
def px (P:ao)(ops:aC a8):b4:=
 let ms:=b9 ops []
 ops.zipIdx.all fun x=>
  (ops.zipIdx.all fun y=> !aJ P y.1||(bif cd y.2 x.2 then !kO P x.1||ax (cW ms x.2) y.2 else !Nat.testBit (cW ms x.2) y.2))&&
  (!(aS P x.1&& !dD P x.1)||(cm (countP (fun j=> !Nat.testBit (cW ms j) x.2) P ops 0) (countP (fun j=>cd j x.2) P ops 0)&&ca (countP (ax (cW ms x.2)) P ops 0) (countP (fun j=>cd j x.2) P ops 0)))
structure gS (A:aR->b4) (s0:au) (K:aR) (i id:aR) (ars:aC (aR×aR×kM)) (T U:au):Prop extends Stands s0 K i id ars T U where
 DW:dz A s0 T
 DX:dz A s0 U
 ids:∀x∈ars,A x.2.1=false
theorem vy {P:ao}{o:a8}(h:dD P o=true):aS P o=true:=by
 cases hp:fA o with
 |true=>exact wZ hp
 |false=>
  simp only[dD,hp,cJ,cb] at h;exact h.2
theorem lj {P:ao}{lib:aD}{all:aC a8}{A:aR->b4}(s0:au)(hA:∀i,A i=true->i<s0.next)(nv:aC aR){Q:aZ->au->Prop}
  (MP:∀(o:a8) (i:aR),all[i]?=some o->aS P o=true->dD P o=false->countP (fun j=> !Nat.testBit (cW nv j) i) P all 0<=fG P all i/\countP (ax (cW nv i)) P all 0=fG P all i)
  (DT:∀(o p:a8) (i j:aR),all[i]?=some o->all[j]?=some p->aJ P p=true->j<i->kO P o=true->ax (cW nv i) j=true)
  (MQ:∀(o p:a8) (i j:aR),all[i]?=some o->all[j]?=some p->aJ P p=true->i<=j->ax (cW nv i) j=false):
  ∀(l pre:aC a8) (ms:aC aR) (id:aR) (f:aZ) (T U:au) (ars:aC (aR×aR×kM)),all=pre++l->ms=nv.drop pre.length->ms.length=l.length->id+aO P l<=s0.next+aO P all->gS A s0 (aO P all) pre.length id ars T U->(∀x∈ars,∃p,all[x.1]?=some p/\aJ P p=true)->bW P lib A all l id f U Q->
  ∃es f' T' U',(∃n,∀m,n<=m->cf P (iZ P lib m) all ms l pre.length id f T ars=some es)/\(aE P l es T).getLastD T=T' /\bV l es f=f' /\Cl.fill (fun _=>true) T' (ars++madeOf es pre.length)=U' /\
   (∀x∈madeOf es pre.length,pre.length<=x.1/\∃p,all[x.1]?=some p/\aJ P p=true)/\
   (∀x∈aE P l es T,dz A s0 x)/\(∀jn before,jn=before++aE P l es T->(∀x∈jn,dz A s0 x)->before.length=fG P pre pre.length->bO P all nv (ars++madeOf es pre.length) jn ms l es pre.length f=true)/\bQ s0 U' /\Q f' U' :=by
 intro l
 induction l with
 |nil=>
  intro pre ms id f T U ars _ _ hl _ aF _ hw;rw[iK] at hw;cases ms with
  |cons m r=>simp at hl
  |nil=>exact⟨[],f,T,U,⟨0,fun _ _=>rfl⟩,rfl,rfl,by simp only[madeOf,dI];exact aF.fill _ (fun _ _=>rfl),(fun x hx=>by simp[madeOf] at hx),(fun x hx=>by simp only[aE,a1] at hx;rw[hx];exact aF.DW),fun _ _ _ _ _=>rfl,aF.keeps,hw⟩
 |cons o r ih=>
  intro pre ms id f T U ars kE Ci hl fM aF has hw;cases ms with
  |nil=>simp at hl
  |cons m ms=>
  have xN:ms.length=r.length:=by simpa using hl
  have mM:all=(pre++[o])++r:=by rw[kE,bq];rfl
  have dk:(pre++[o]).length=pre.length+1:=by simp
  have sk:ms=nv.drop (pre++[o]).length:=by
   rw[dk,<-ek,<-Ci];rfl
  have MR:cW nv pre.length=m:=by
   have ny:∀(L:aC aR) (k:aR) (x:aR) (t:aC aR),L.drop k=x::t->cW L k=x:=by
    intro L
    induction L with
    |nil=>intro k x t h;simp at h
    |cons y L FU=>
     intro k x t h;cases k with
     |zero=>simp at h;exact h.1
     |succ k=>simp only[b5] at h;simp only[cW];exact FU k x t h
   exact ny nv pre.length m ms Ci.symm
  have jq:all[pre.length]?=some o:=by rw[kE];simp
  have Bc:fG P all pre.length=fG P pre pre.length:=by rw[kE,qb]
  have vM:=vv P o pre;have jA:∀(v:an) (MS:aR) (U' :au),(dm f o.dst v fun f' =>bW P lib A all r MS f' U' Q)->∃f1,my f o.dst v=some f1/\bW P lib A all r MS f1 U' Q:=by
   intro v MS U' h;unfold dm at h;split at h
   ·exact⟨_,‹_›,h⟩
   exact h.elim
  have ga:aO P (o::r)=if aJ P o then aO P r+1 else aO P r:=rfl
  have pq:kO P o=true->Cl.fill (ax m) T ars=U:=fun hn=>aF.fill _ (fun x hx=>by
   obtain⟨p,hp,Ig⟩:=has x hx;rw[<-MR];exact DT o p pre.length x.1 jq hp Ig (aF.before x hx) hn)
  rw[gy] at hw;cases pV:cH all o f with
  |false=>
   rw[pV] at hw;obtain⟨f1,hp,hw⟩:=jA _ _ _ hw;have fN:gS A s0 (aO P all) (pre++[o]).length (if aJ P o then id+1 else id) ars T U:=by
    refine⟨⟨aF.fill,aF.here,fun x hx=>by have:=aF.before x hx;omega,by have:=aF.lo;split<;>omega,fun k hk qP=>aF.free k (by split at hk<;>omega) qP,aF.next,aF.keeps⟩,aF.DW,aF.DX,aF.ids⟩
   obtain⟨es,f',T',U',⟨n,h1⟩,h3,h4,hf,mN,ln,h5,hk,h6⟩:=ih (pre++[o]) ms _ f1 T U ars mM sk xN (by rw[ga] at fM;split<;>split at fM<;>first|omega|contradiction) fN has hw;rw[dk] at h1 h5 hf mN;refine⟨.skip::es,f',T',U',⟨n,fun q hq=> ?_⟩,?_,by simp only[bV,Ev.val,hp,h4],by simp only[madeOf];exact hf,(fun x hx=>by simp only[madeOf] at hx;obtain⟨a,b⟩:=mN x hx;exact⟨by omega,b⟩),(fun x hx=>by
    simp only[aE] at hx;split at hx
    ·rcases cc.mp hx with rfl|hx
     ·exact aF.DW
     exact ln x hx
    exact ln x hx),fun jn before hs jJ hb=> ?_,hk,h6⟩
   ·simp only[cf,dH,pV,Ev.val,hp];rw[h1 q hq]
   ·simp only[aE];split
    ·obtain⟨rr,hr⟩:=dC P r es T;rw[hr] at h3|-
     rw[a2] at h3|-
     rw[a2];exact h3
    exact h3
   simp only[bO,Ev.val,hp,bt,madeOf];simp only[aE] at hs;split at hs
   ·rename_i he;refine h5 jn (before++[T]) (by rw[hs,bq];rfl) jJ ?_;rw[<-dk,vM,cA he,cg,hb];rfl
   rename_i he;refine h5 jn before hs jJ ?_;rw[<-dk,vM,ck he,hb]
  |true=>
   rw[pV] at hw;cases hq:aS P o with
   |true=>
    simp only[gR,hq,cond_true] at hw;have cE:=iI hq;have Fp:=jB hq;rw[ga,ck (by simp[Fp])] at fM;unfold mj at hw;split at hw
    case h_2=>exact hw.elim
    rename_i v s1 er;obtain⟨mA,hv,hw⟩:=hw;obtain⟨f1,hp,hw⟩:=jA _ _ _ hw;have fN:gS A s0 (aO P all) (pre++[o]).length id ars T U:=⟨⟨aF.fill,aF.here,fun x hx=>by have:=aF.before x hx;omega,aF.lo,aF.free,aF.next,aF.keeps⟩,aF.DW,aF.DX,aF.ids⟩;obtain⟨es,f',T',U',⟨n,h1⟩,h3,h4,hf,mN,ln,h5,hk,h6⟩:=ih (pre++[o]) ms id f1 T U ars mM sk xN fM fN has hw;rw[dk] at h1 h5 hf mN;have m8:∃s2,cV P o f (Cl.fill (ax m) T ars)=some (.val v s2):=by
     cases kJ:dD P o with
     |true=>exact⟨_,rp kJ mA aF.DX (aF.DW.trans (nA _ _ _ _ aF.ids)) er⟩
     |false=>exact⟨s1,by rw[pq (by simp[kO,kJ,Fp])];exact er⟩
    obtain⟨s2,m8⟩:=m8;refine⟨.quiet v::es,f',T',U',⟨n,fun q z7=> ?_⟩,?_,by simp only[bV,Ev.val,hp,h4],by simp only[madeOf];exact hf,(fun x hx=>by simp only[madeOf] at hx;obtain⟨a,b⟩:=mN x hx;exact⟨by omega,b⟩),(fun x hx=>ln x (by simpa [aE,cE] using hx)),fun jn before hs jJ hb=> ?_,hk,h6⟩
    ·simp only[cf,dH,pV,hq,m8,Ev.val,hp,Fp];rw[ck (by simp),h1 q z7]
    ·simp only[aE,cE];simpa using h3
    have tQ:jn=before++aE P r es T:=by simpa [aE,cE] using hs
    simp only[bO,Ev.val,hp,madeOf];rw[h5 jn before tQ jJ (by rw[<-dk,vM,ck (by simp[cE]),hb]),cD];have hfw:∀X:au,Cl.fill (ax m) X (ars++madeOf es (pre.length+1))=Cl.fill (ax m) X ars:=by
     intro X;rw[jh,vw _ (madeOf es (pre.length+1))];intro x hx;obtain⟨a,p,Tf,Ig⟩:=mN x hx;rw[<-MR];exact MQ o p pre.length x.1 jq Tf Ig (by omega)
    have tP:∀(L:aC au),(∀x∈L,dz A s0 x)->(dD P o=false->∀x∈L,x=T)->sameAt P m (ars++madeOf es (pre.length+1)) o f v L=true:=by
     intro L
     induction L with
     |nil=>intro _ _;rfl
     |cons x L FU=>
      intro kA hx;simp only[sameAt,hfw];have:∃s3,cV P o f (Cl.fill (ax m) x ars)=some (.val v s3):=by
       cases kJ:dD P o with
       |true=>exact⟨_,rp kJ mA aF.DX ((kA x (bb ..)).trans (nA _ _ _ _ aF.ids)) er⟩
       |false=>rw[hx kJ x (bb ..)];exact⟨s2,m8⟩
      obtain⟨s3,iT⟩:=this;rw[iT];simp only[hv,bt];exact FU (fun y hy=>kA y (bw _ hy)) (fun kJ y hy=>hx kJ y (bw _ hy))
    refine tP _ (fun x hx=>jJ x (c0 (c3 hx))) (fun kJ x hx=> ?_);obtain⟨t1,t2⟩:=MP o pre.length jq hq kJ;rw[MR] at t2;rw[t2] at hx;obtain⟨rr,hr⟩:=dC P r es T;rw[Bc,<-hb,en,tQ,hr,eo] at hx;have oK:countP (fun j=> !Nat.testBit (cW nv j) pre.length) P all 0+1-before.length<=1:=by omega
    generalize countP (fun j=> !Nat.testBit (cW nv j) pre.length) P all 0+1-before.length=k at hx oK;cases k with
    |zero=>simp at hx
    |succ k=>
     obtain rfl:k=0:=by omega
     simpa using hx
   |false=>
    cases ha:aJ P o with
    |true=>
     simp only[gR,hq,ha,cond_true,cond_false] at hw;rw[ga,cA ha] at fM;have cE:bh P o=false:=by simp[bh,ha]
     unfold kY at hw;split at hw
     case h_2=>exact hw.elim
     rename_i v b er;obtain⟨f1,hp,hw⟩:=jA _ _ _ hw;have MT:∃s1,cV P o f ⟨.nil,id⟩=some (.val v s1)/\s1.bL id=some b:=by
      unfold dh at er;split at er
      ·rename_i v1 s1 h1;split at er
       ·rename_i b1 fp;injection er with er;injection er with e1 e2;subst e1;subst e2
        exact⟨s1,h1,fp⟩
       cases er
      cases er
     obtain⟨s1,zt,iV⟩:=MT;have jg:=aF.free id (aY _) (by omega);have a7:id<U.next:=by have:=aF.next;omega
     have fN:gS A s0 (aO P all) (pre++[o]).length (id+1) (ars++[(pre.length,id,b)]) T (U.put id (.eE b)):=by
      refine⟨⟨fun p hp=> ?_,fun x hx=> ?_,fun x hx=> ?_,by have:=aF.lo;omega,fun k hk qP=> ?_,by have:=aF.next;simpa [au.put] using this,?_⟩,aF.DW,aF.DX.trans ⟨aY _,fun i hi=>au.bo _ _ _ _ (by have:=aF.lo;have:=hA i hi;omega)⟩,fun x hx=> ?_⟩
      ·rw[jh,aF.fill p (fun x hx=>hp x (c4 _ hx))];have SU:p pre.length=true:=hp (pre.length,id,b) (cU _ (bb ..));simp only[Cl.fill,SU,jg]
      ·rcases bz.mp hx with hx|hx
       ·have hh:=aF.here x hx;have:x.2.1≠id:=fun e=>hh (by rw[e];exact jg)
        rw[au.bo _ _ _ _ (Ne.symm this)];exact hh
       rw[a1] at hx;subst hx
       simp only[au.put,Tr.bF _ _ _ _ (deep (by omega))];simp
      ·rcases bz.mp hx with hx|hx
       ·have:=aF.before x hx;omega
       rw[a1] at hx;subst hx;simp
      ·rw[au.bo _ _ _ _ (by omega)];exact aF.free k (by omega) qP
      ·have hk:=aF.keeps;refine⟨hk.next,fun j hj hn=> ?_,fun j hj=> ?_,⟨by omega,fun j ob hj=> ?_⟩⟩
       ·have:=aF.lo;rw[au.bo _ _ _ _ (by omega)];exact hk.gone j hj hn
       ·by_cases gD:id=j
        ·subst gD;simp only[au.put,Tr.bF _ _ _ _ (deep (by omega))];simp
        rw[au.bo _ _ _ _ gD];exact hk.here j hj
       by_cases gD:id=j
       ·subst gD;simpa [au.put] using a7
       rw[au.bo _ _ _ _ gD] at hj;have:=hk.wf.bound j ob hj;simpa [au.put] using this
      rcases bz.mp hx with hx|hx
      ·exact aF.ids x hx
      rw[a1] at hx;subst hx;exact(by cases hAi:A id with|false=>rfl|true=>(have:=hA id hAi;have:=aF.lo;omega))
     have MU:∀x∈ars++[(pre.length,id,b)],∃p,all[x.1]?=some p/\aJ P p=true:=by
      intro x hx;rcases bz.mp hx with hx|hx
      ·exact has x hx
      rw[a1] at hx;subst hx;exact⟨o,jq,ha⟩
     obtain⟨es,f',T',U',⟨n,h1⟩,h3,h4,hf,mN,ln,h5,hk,h6⟩:=ih (pre++[o]) ms (id+1) f1 T _ _ mM sk xN (by omega) fN MU hw;rw[dk] at h1 h5 hf mN;have Tz:∀L,ars++(pre.length,id,b)::L=(ars++[(pre.length,id,b)])++L:=fun L=>by rw[bq];rfl
     refine⟨.made v id b::es,f',T',U',⟨n,fun q z7=> ?_⟩,?_,by simp only[bV,Ev.val,hp,h4],by simp only[madeOf];rw[Tz];exact hf,(fun x hx=> ?_),(fun x hx=>ln x (by simpa [aE,cE] using hx)),fun jn before hs jJ hb=> ?_,hk,h6⟩
     ·simp only[cf,dH,pV,hq,ha,zt,iV,Ev.val,hp,c5];rw[h1 q z7]
     ·simp only[aE,cE];simpa using h3
     ·simp only[madeOf] at hx;rcases cc.mp hx with rfl|hx
      ·exact⟨aY _,o,jq,ha⟩
      obtain⟨a,c⟩:=mN x hx;exact⟨by omega,c⟩
     simp only[bO,Ev.val,hp,bt,madeOf];rw[Tz];have tQ:jn=before++aE P r es T:=by simpa [aE,cE] using hs
     exact h5 jn before tQ jJ (by rw[<-dk,vM,ck (by simp[cE]),hb])
    |false=>
     simp only[gR,hq,ha,cond_false] at hw;rw[ga,ck (by simp[ha])] at fM;have he:bh P o=true:=by simp[bh,hq,ha]
     have kJ:dD P o=false:=by
      cases kJ:dD P o with
      |false=>rfl
      |true=>rw[vy kJ] at hq;cases hq
     have hU:=pq (by simp[kO,kJ,ha]);have fin:∀(v:an) (U1:au) (n0:aR),(∀q,n0<=q->dH P (iZ P lib q) all m id ars o f T=some (.BH v U1))->bQ U U1->dz A U U1->(dm f o.dst v fun f' =>bW P lib A all r id f' U1 Q)->
       ∃es f' T' U',(∃n,∀m',n<=m' ->cf P (iZ P lib m') all (m::ms) (o::r) pre.length id f T ars=some es)/\(aE P (o::r) es T).getLastD T=T' /\bV (o::r) es f=f' /\Cl.fill (fun _=>true) T' (ars++madeOf es pre.length)=U' /\
        (∀x∈madeOf es pre.length,pre.length<=x.1/\∃p,all[x.1]?=some p/\aJ P p=true)/\
        (∀x∈aE P (o::r) es T,dz A s0 x)/\(∀jn before,jn=before++aE P (o::r) es T->(∀x∈jn,dz A s0 x)->before.length=fG P pre pre.length->bO P all nv (ars++madeOf es pre.length) jn (m::ms) (o::r) es pre.length f=true)/\bQ s0 U' /\Q f' U' :=by
      intro v U1 n0 hd z8 He hw;obtain⟨f1,hp,hw⟩:=jA _ _ _ hw;have ux:∀x∈ars,U1.heap.get x.2.1≠none:=fun x hx=>z8.here _ (aF.here x hx)
      have fN:gS A s0 (aO P all) (pre++[o]).length id ars U1 U1:=by
       refine⟨⟨fun p hp=>vx p ars U1 ux,ux,fun x hx=>by have:=aF.before x hx;omega,aF.lo,fun k hk qP=>z8.gone k (by have:=aF.next;omega) (aF.free k hk qP),by have:=aF.next;have:=z8.next;omega,aF.keeps.trans z8⟩,aF.DX.trans He,aF.DX.trans He,aF.ids⟩
      obtain⟨es,f',T',U',⟨n,h1⟩,h3,h4,hf,mN,ln,h5,hk,h6⟩:=ih (pre++[o]) ms id f1 U1 U1 ars mM sk xN fM fN has hw;rw[dk] at h1 h5 hf mN;refine⟨.BH v U1::es,f',T',U',⟨n+n0,fun q z7=> ?_⟩,?_,by simp only[bV,Ev.val,hp,h4],by simp only[madeOf];exact hf,(fun x hx=>by simp only[madeOf] at hx;obtain⟨a,b⟩:=mN x hx;exact⟨by omega,b⟩),(fun x hx=>by
       simp only[aE] at hx;rcases cc.mp hx with rfl|hx
       ·exact aF.DW
       exact ln x hx),fun jn before hs jJ hb=> ?_,hk,h6⟩
      ·simp only[cf,hd q (by omega),Ev.val,hp,ha];rw[ck (by simp),h1 q (by omega)]
      ·simp only[aE];obtain⟨rr,hr⟩:=dC P r es U1;rw[hr] at h3|-
       rw[a2] at h3|-
       rw[a2];exact h3
      simp only[bO,Ev.val,hp,bt,madeOf];simp only[aE] at hs;refine h5 jn (before++[T]) (by rw[hs,bq];rfl) jJ ?_;rw[<-dk,vM,cA he,cg,hb];rfl
     unfold gk at hw;split at hw
     case h_3=>exact hw.elim
     ·rename_i v U1 er;obtain⟨He,hw⟩:=hw;exact fin v U1 0 (fun q _=>by simp only[dH,pV,hq,ha,hU,er]) (qS aF.keeps.wf er) He hw
     rename_i g args er;obtain⟨v,U1,⟨nc,hc⟩,z8,He,hw⟩:=hw aF.keeps.wf;exact fin v U1 nc (fun q z7=>by simp only[dH,pV,hq,ha,hU,er,hc q z7]) z8 He hw
theorem cN.loose {P:ao}{lib:aD}{ops:aC a8}{A:aR->b4}(ht:px P ops=true){f:aZ}{s:au}{Q:aZ->au->Prop}(hA:∀i,A i=true->i<s.next)(h:bW P lib A ops ops s.next f (spare s (aO P ops)) Q):cN P lib ops f s Q:=by
 intro pZ;simp only[px,dA,cb,dK,dw] at ht;have mB:∀(o:a8) (i:aR),ops[i]?=some o->(o,i)∈ops.zipIdx:=fun o i hi=>by rw[cx];simpa using hi
 have Ci:(b9 ops []).length=ops.length:=by
  obtain⟨r,h1,h2⟩:=mg ops [];rw[h1];simpa using h2
 have jg:∀k,s.next<=k->s.heap.get k=none:=fun k oK=>by
  cases hg:s.heap.get k with
  |none=>rfl
  |some o=>have:=pZ.bound k o hg;omega
 have Jv:bQ s (spare s (aO P ops)):=⟨by simp[spare],fun _ _ h=>h,fun _ h=>h,⟨by omega,fun j o hj=>by have:=pZ.bound j o hj;simp only[spare];omega⟩⟩;obtain⟨es,f',T',U',⟨n,h1⟩,h3,h4,hf,mN,ln,h5,hk,h6⟩:=lj (P:=P) (lib:=lib) (all:=ops) (A:=A) s hA (b9 ops []) (Q:=Q) (fun o i hi hq hp=>by
   have:=(ht (o,i) (mB o i hi)).2;have Ce:=kX P ops 0 i;rw[cT] at Ce;rcases this with h|h
   ·simp[hq,hp] at h
   obtain⟨t1,t2⟩:=h;rw[Ce] at t1 t2;exact⟨by simpa [ea] using t1,by simpa [dg] using t2⟩)
  (fun o p i j hi hj ha gD hn=>by
   have:=(ht (o,i) (mB o i hi)).1 (p,j) (mB p j hj);have hb:cd j i=true:=by simpa [bA] using gD
   simp only[ha,hb,cond_true,hn] at this
   simpa using this)
  (fun o p i j hi hj ha Dd=>by
   have:=(ht (o,i) (mB o i hi)).1 (p,j) (mB p j hj);have hb:cd j i=false:=by rw[<-cM,bA];omega
   simp only[ha,hb,cond_false] at this
   simpa using this)
  ops [] (b9 ops []) s.next f (spare s (aO P ops)) (spare s (aO P ops)) [] rfl rfl Ci (by omega)
  ⟨⟨fun _ _=>rfl,fun _ hx=>(by cases hx),fun _ hx=>(by cases hx),aY _,fun k oK _=>jg k oK,by simp[spare],Jv⟩,aw.qI hA (aw.spare _ _),aw.qI hA (aw.spare _ _),fun _ hx=>(by cases hx)⟩ (fun _ hx=>(by cases hx)) h
 simp only[cv,dP] at h1 h5 hf mN;refine⟨f',U',⟨n,fun m hm=> ?_⟩,hk,h6⟩;unfold iC;have MD:=h1 m hm;have hb:cm 0 16000000=true:=rfl;simp only[];show(match cf P (iZ P lib m) ops (b9 ops []) ops 0 s.next f (spare s (aO P ops)) [] with
  |some es=>match bO P ops (b9 ops []) (madeOf es 0) (aE P ops es (spare s (aO P ops))) (b9 ops []) ops es 0 f with
   |true=>some (bV ops es f,Cl.fill (fun _=>true) ((aE P ops es (spare s (aO P ops))).getLastD s) (madeOf es 0))
   |false=>none
  |none=>none)=_
 rw[MD];have h5' :=h5 (aE P ops es (spare s (aO P ops))) [] rfl ln rfl;simp only[h5',h4];obtain⟨rr,hr⟩:=dC P ops es (spare s (aO P ops));rw[hr] at h3|-
 rw[a2] at h3|-
 rw[h3,hf]
theorem cN.dx {P:ao}{lib:aD}{ops:aC a8}{f:aZ}{s:au}{Q:aZ->au->Prop}(A:aR->b4)(hA:∀i,A i=true->i<s.next)(k:aR)(ht:px P ops=true)(hk:ca (aO P ops) k=true)(h:bW P lib A ops ops s.next f (spare s k) Q):AL P lib ops f s Q false:=by
 have:aO P ops=k:=by simpa [dg] using hk
 exact cN.loose ht hA (by rw[this];exact h)
section
variable {P:ao} {lib:aD} {A:aR->b4} {all r:aC a8} {id:aR} {f:aZ} {T:au} {d:a3 Tmp} {Q:aZ->au->Prop}
theorem bR {cs:aC an}{n z base:aR}(h:cs.length=n*z)(fM:id<T.next)(hb:base<=id)
  (K:∀v T',Own T' z v n cs->aI v=some id->aw base T T' ->T'.next=T.next->(∀j,j≠id->T'.heap.get j=T.heap.get j)->fq P lib A all r (id+1) f d Q v T'):kY P lib A all r id f T d Q (dh id (oU (a6 ⟨.nil,id⟩ cs n z))):=by
 have e:dh id (oU (a6 ⟨.nil,id⟩ cs n z))=some (.slice (some ⟨id,0,none⟩) n (cs.length+1),⟨cs,1,true,z⟩):=by
  have:a6 ⟨.nil,id⟩ cs n z=some (.slice (some ⟨id,0,none⟩) n (cs.length+1),(⟨.nil,id⟩:au).new (.eE ⟨cs,1,true,z⟩)):=by simp[a6,au.room]
  rw[this,eU];have hb:((⟨.nil,id⟩:au).new (.eE ⟨cs,1,true,z⟩)).bL id=some ⟨cs,1,true,z⟩:=oM ⟨.nil,id⟩ _;simp only[dh,hb]
 rw[e,rq];have zI:∀j,j≠id->(T.put id (.eE ⟨cs,1,true,z⟩)).heap.get j=T.heap.get j:=fun j hj=>au.bo _ _ _ _ (Ne.symm hj)
 refine K _ _ (.of id n 1 cs (by simpa [au.put] using fM) (au.cC _ _ _ (by omega)) (by omega) h) rfl ⟨aY _,fun j hj=>zI j (by omega)⟩ rfl zI
theorem eY {st xt e:av}{xd:TypeDesc}{z kH:aR}{zv:an}(hu:P.underlying st=some (.slice e))(Cm:P.underlying xt=some xd)(wS:(∃e2,xd= .slice e2)\/xd= .string)(cX:br P e=some z)(oC:dX P e=some kH)(qu:b6 P e=some zv)(tq:ca zv.cells.toList.length z=true)
  {x y:an} {n m:aR} {l new:aC an} (hx:Own T z x n l) (hy:dU T z y=some (m,new)) (gM:new.length=m*z) (tE:0<z) (gF:new.all aT=true) (fp:(n+m)*kH<=140737488355328) (dr:n+m<=140737488355328) {base:aR} (hF:aM base x) (hB:base<=T.next) (BR:∀i,aI x=some i->A i=false) (Bf:∀i,A i=true->i<T.next)
  (K:∀x' T',Own T' z x' (n+m) (l++new)->aM base x' ->dz A T T' ->bG x T T' ->(aI x' =aI x\/∃i,aI x' =some i/\T.next<=i)->fq P lib A all r id f d Q x' T'):gk P lib A all r id f d T Q (oU (eT P T st xt x y)):=by
 obtain⟨x',s',h1,h2,h3,h4⟩:=Own.append hu Cm wS cX oC qu tq hx hy gM tE gF fp dr;rw[h1,eU];have hk:dz A T s' :=⟨h3.next,fun i hi=>h3.get i (Bf i hi) (fun e=>by have:=BR i e;rw[hi] at this;cases this)⟩;refine⟨hk,K _ _ h2 (fun i hi=> ?_) hk h3 h4⟩;rcases h4 with h4|⟨j,hj,hl⟩
 ·exact hF i (by rw[<-h4];exact hi)
 rw[hj] at hi;injection hi with hi;omega
end
end LA
theorem bg:type_of%
 (ab (ab (ab (ab @LA.uz @LA.pw) (ab @LA.uA @LA.uC)) (ab (ab @LA.mP
 @LA.ru) (ab @LA.uB (ab @LA.nV @LA.Kk)))) (ab (ab (ab @LA.Be @LA.kZ) (ab
 @LA.ry @LA.lg)) (ab (ab @LA.rz @LA.nW) (ab @LA.yK (ab @LA.rA @LA.nX))))):=
 (ab (ab (ab (ab @LA.uz @LA.pw) (ab @LA.uA @LA.uC)) (ab (ab @LA.mP
 @LA.ru) (ab @LA.uB (ab @LA.nV @LA.Kk)))) (ab (ab (ab @LA.Be @LA.kZ) (ab
 @LA.ry @LA.lg)) (ab (ab @LA.rz @LA.nW) (ab @LA.yK (ab @LA.rA @LA.nX)))))
theorem QI:type_of%
 (ab (ab (ab @LA.iK @LA.gy) (ab @LA.mm @LA.ez)) (ab (ab @LA.mn
 @LA.kh) (ab @LA.kj (ab @LA.ke @LA.ki)))):=
 (ab (ab (ab @LA.iK @LA.gy) (ab @LA.mm @LA.ez)) (ab (ab @LA.mn
 @LA.kh) (ab @LA.kj (ab @LA.ke @LA.ki))))
end Go.Cl