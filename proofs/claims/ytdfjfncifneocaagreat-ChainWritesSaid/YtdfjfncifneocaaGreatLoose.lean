/-
 The clean machine: a statement whose order is open, in which slices are cut of what was there ahead of it, and which turns new blocks alone: it comes to what it comes to in the text's order.
-/
import Derived.Test.YtdfjfncifneocaaGreatCutA
namespace Go.Cl
def Ef (o:Oper):Bool:=
 match o.op with
 | .slice _ _ _ _ _=>true
 | .load _ _=>true
 | .call ⟨.builtin .len,_,_⟩=>true
 |_=>false
def dg (o:Oper):Bool:=eK o||Ef o
def dB (b:Nat):Option Value->Bool
 |some (.slice (some a) _ c)=>Nat.blt a.block b||Nat.beq c 0
 |some (.slice none _ _)=>true
 |some (.string _)=>true
 |some (.pointer (some a))=>Nat.blt a.block b
 |_=>false
def rW:Option (List Value)->Bool
 |some [.slice _ _ _]=>true
 |some [.string _]=>true
 |_=>false
def eN (o:Oper)(f:aR)(b:Nat):Bool:=
 match o.op with
 | .slice _ x _ _ _=>dB b (aS f x)
 | .load _ x=>dB b (aS f x)
 | .call ⟨.builtin .len,args,_⟩=>rW (ad f args.toList)
 |_=>true
theorem mZ {P:Program}{s t:aq}{b:Nat}(h:ar b s t){ty:TypeId}{u:Value}{lo hi mx:Option Value}(hl:dB b (some u)=true):dH P s ty u lo hi mx=dH P t ty u lo hi mx:=by
 unfold dH
 generalize P.underlying ty=U
 have ee:∀i c,(i<b\/c=0)->∀z,jW s i c z=jW t i c z:=fun i c hi z=>by
  unfold jW
  cases c with
  |zero=>rfl
  |succ c=>simp only[aq.bK,h.get i (hi.resolve_right (by omega))]
 cases U with
 |none=>rfl
 |some D=>
  cases u with
  |slice a n c=>
   cases a with
   |none=>cases D<;>rfl
   |some a=>
    obtain⟨i,off,sp⟩:=a
    have hi:i<b\/c=0:=by simpa [dB,Nat.blt_eq] using hl
    cases sp with
    |none=>cases D<;>simp only[ee i c hi]
    |some k=>cases D<;>rfl
  |string x=>cases D<;>rfl
  |pointer a=>
   cases a with
   |none=>simp[dB] at hl
   |some a=>
    obtain⟨i,off,sp⟩:=a
    have hi:i<b:=by simpa [dB,Nat.blt_eq] using hl
    have hb:s.bK i=t.bK i:=by simp only[aq.bK,h.get i hi]
    cases sp with
    |none=>cases D<;>rfl
    |some k=>cases D<;>simp only[hb]
  |_=>simp[dB] at hl
theorem pg {P:Program}{s t:aq}{b:Nat}(h:ar b s t){ty:TypeId}{u:Value}(hl:dB b (some u)=true):aG P s ty u=aG P t ty u:=by
 unfold aG
 cases u with
 |pointer a=>
  cases a with
  |none=>rfl
  |some a=>
   obtain⟨i,off,sp⟩:=a
   have hi:i<b:=by simpa [dB,Nat.blt_eq] using hl
   have hb:∀off c n,s.dm i off c n=t.dm i off c n:=fun off c n=>by simp only[aq.dm,aq.bK,h.get i hi]
   cases sp with
   |none=>rfl
   |some k=>simp only[hb]
 |_=>rfl
theorem Bu {P:Program}{s t:aq}{ty:TypeId}{u:Value}(hl:rW (some [u])=true):aV P s ty u=aV P t ty u:=by
 unfold aV
 generalize P.underlying ty=U
 cases U with
 |none=>rfl
 |some D=>
  cases u with
  |slice a n c=>cases D<;>rfl
  |string x=>cases D<;>rfl
  |_=>simp[rW] at hl
theorem ph {P:Program}{o:Oper}{b:Nat}{s0:aq}(h:dg o=true){f:aR}{s t:aq}(hl:eN o f b=true)(hs:ar b s0 s)(ht:ar b s0 t){v:Value}{s' :aq}(ha:cy P o f s=some (.val v s')):cy P o f t=some (.val v t):=by
 cases hp:eK o with
 |true=>exact rQ hp ha
 |false=>
  simp only[dg,hp,Bool.false_or] at h
  obtain⟨dst,op,type,pos,after,guard⟩:=o
  have uy:∀{r1 r2:Option Value},r1=r2->oo s r1=some (.val v s')->oo t r2=some (.val v t):=by
   intro r1 r2 e hv
   subst e
   cases r1 with
   |none=>cases hv
   |some w=>
    rw[rN] at hv
    injection hv with hv;injection hv with hv _;subst hv;rfl
  cases op<;>simp only[Ef] at h<;>try (cases h;done)
  case slice ty x lo hi mx=>
   rw[sL] at ha|-
   simp only[eN] at hl
   split at ha
   ·rename_i u l hh m hu h2 h3 h4
    rw[hu] at hl
    have e1:=mZ (P:=P) hs (ty:=ty) (lo:=l) (hi:=hh) (mx:=m) hl
    have e2:=mZ (P:=P) ht (ty:=ty) (lo:=l) (hi:=hh) (mx:=m) hl
    exact uy (by rw[<-e1,<-e2]) ha
   ·cases ha
  case load ty x=>
   rw[vq] at ha|-
   simp only[eN] at hl
   split at ha
   ·rename_i u hu
    rw[hu] at hl
    have e1:=pg (P:=P) hs (ty:=ty) hl
    have e2:=pg (P:=P) ht (ty:=ty) hl
    exact uy (by rw[<-e1,<-e2]) ha
   ·cases ha
  case call cl=>
   obtain⟨callee,args,ts⟩:=cl
   cases callee with
   |builtin bi=>
    cases bi<;>simp only at h<;>try (cases h;done)
    simp only[eN] at hl
    rw[gv] at ha|-
    cases SQ:ad f args.toList with
    |none=>rw[SQ] at hl;simp[rW] at hl
    |some vs=>
     rw[SQ] at hl ha
     match vs,hl with
     |[u],hl=>
      simp only at ha|-
      unfold im at ha|-
      split at ha<;>rename_i hts<;>simp_all
      rw[<-Bu (P:=P) (s:=s) (t:=t) hl];exact uy ha
     |[],hl=>simp[rW] at hl
     |a::b::r,hl=>cases a<;>simp[rW] at hl
   |_=>simp at h
theorem kQ (p:Nat->Bool)(b:Nat):∀(zS:List (Nat×Nat×iC)) (T:aq),(∀x∈zS,b<=x.2.1)->ar b T (Cl.fill p T zS):=by
 intro zS
 induction zS with
 |nil=>intro T _;exact ar.refl _ _
 |cons x zS ih=>
  intro T h
  obtain⟨j,id,bk⟩:=x
  have fc:b<=id:=h (j,id,bk) (List.mem_cons_self ..)
  have hr:=fun y hy=>h y (List.mem_cons_of_mem _ hy)
  simp only[Cl.fill]
  split
  ·exact ar.trans (s' :=T.put id (.dL bk)) ⟨Nat.le_refl _,fun i hi=>aq.a8 _ _ _ _ (by omega)⟩ (ih _ hr)
  ·exact ih _ hr
def bP (P:Program)(lib:ay)(b:Nat)(all:List Oper):List Oper->Nat->aR->aq->(aR->aq->Prop)->Prop
 |[],_,f,T,Q=>Q f T
 |o::r,id,f,T,Q=>
  match b9 all o f with
  |true=>
   match aI P o,aB P o with
   |true,_=>
    match cy P o f T with
    |some (.val v _)=>eN o f b=true/\bX v v=true/\cO f o.dst v fun f' =>bP P lib b all r id f' T Q
    |_=>False
   |false,true=>
    match cR id (cy P o f ⟨.nil,id⟩) with
    |some (v,bl)=>cO f o.dst v fun f' =>bP P lib b all r (id+1) f' (T.put id (.dL bl)) Q
    |none=>False
   |false,false=>
    match cy P o f T with
    |some (.val v T')=>ar b T T' /\cO f o.dst v fun f' =>bP P lib b all r id f' T' Q
    |some (.call g args)=>Runs P lib g args T fun v T' =>ar b T T' /\cO f o.dst v fun f' =>bP P lib b all r id f' T' Q
    |none=>False
  |false=>cO f o.dst undef fun f' =>bP P lib b all r (if aB P o then id+1 else id) f' T Q
def jR (P:Program)(lib:ay)(b:Nat)(all:List Oper)(o:Oper)(r:List Oper)(id:Nat)(f:aR)(T:aq)(Q:aR->aq->Prop):Option AR->Prop
 |some (.val v _)=>eN o f b=true/\bX v v=true/\cO f o.dst v fun f' =>bP P lib b all r id f' T Q
 |_=>False
def jk (P:Program)(lib:ay)(b:Nat)(all r:List Oper)(id:Nat)(f:aR)(T:aq)(d:Option Tmp)(Q:aR->aq->Prop):Option (Value×iC)->Prop
 |some (v,bl)=>cO f d v fun f' =>bP P lib b all r (id+1) f' (T.put id (.dL bl)) Q
 |none=>False
def fP (P:Program)(lib:ay)(b:Nat)(all r:List Oper)(id:Nat)(f:aR)(d:Option Tmp)(T:aq)(Q:aR->aq->Prop):Option AR->Prop
 |some (.val v T')=>ar b T T' /\cO f d v fun f' =>bP P lib b all r id f' T' Q
 |some (.call g args)=>Runs P lib g args T fun v T' =>ar b T T' /\cO f d v fun f' =>bP P lib b all r id f' T' Q
 |none=>False
def ff (P:Program)(lib:ay)(b:Nat)(all r:List Oper)(id:Nat)(f:aR)(d:Option Tmp)(Q:aR->aq->Prop)(v:Value)(T' :aq):Prop:=cO f d v fun f' =>bP P lib b all r id f' T' Q
def fQ (P:Program)(lib:ay)(b:Nat)(all:List Oper)(o:Oper)(r:List Oper)(id:Nat)(f:aR)(T:aq)(Q:aR->aq->Prop):Bool->Prop
 |true=>bif aI P o then jR P lib b all o r id f T Q (cy P o f T) else bif aB P o then jk P lib b all r id f T o.dst Q (cR id (cy P o f ⟨.nil,id⟩)) else fP P lib b all r id f o.dst T Q (cy P o f T)
 |false=>cO f o.dst undef fun f' =>bP P lib b all r (if aB P o then id+1 else id) f' T Q
section
variable (P:Program) (lib:ay) (b:Nat) (all:List Oper) (r:List Oper) (id:Nat) (f:aR) (T:aq) (Q:aR->aq->Prop)
theorem kR:bP P lib b all [] id f T Q=Q f T:=by simp only[bP]
theorem jG (o:Oper):bP P lib b all (o::r) id f T Q=fQ P lib b all o r id f T Q (b9 all o f):=by
 simp only[bP]
 cases b9 all o f with
 |false=>rfl
 |true=>
  simp only[fQ]
  cases aI P o with
  |true=>
   simp only[cond_true]
   cases cy P o f T with
   |none=>rfl
   |some a=>cases a<;>rfl
  |false=>
   cases aB P o with
   |true=>
    simp only[cond_true,cond_false]
    cases cR id (cy P o f ⟨.nil,id⟩) with
    |none=>rfl
    |some a=>rfl
   |false=>
    simp only[cond_false]
    cases cy P o f T with
    |none=>rfl
    |some a=>cases a<;>rfl
variable (d:Option Tmp) (ty:TypeId) (ps:String) (af:Array Edge) (gd:Option (Nat×Bool))
theorem m4 (o:Oper):fQ P lib b all o r id f T Q true=bif aI P o then jR P lib b all o r id f T Q (cy P o f T) else bif aB P o then jk P lib b all r id f T o.dst Q (cR id (cy P o f ⟨.nil,id⟩)) else fP P lib b all r id f o.dst T Q (cy P o f T):=rfl
theorem sX (o:Oper):fQ P lib b all o r id f T Q true=if aI P o=true then jR P lib b all o r id f T Q (cy P o f T) else if aB P o=true then jk P lib b all r id f T o.dst Q (cR id (cy P o f ⟨.nil,id⟩)) else fP P lib b all r id f o.dst T Q (cy P o f T):=by
 rw[m4]
 cases aI P o<;>cases aB P o<;>rfl
theorem iF (op:Op)(t:Tmp):fQ P lib b all ⟨some t,op,ty,ps,af,gd⟩ r id f T Q false=if t<f.n then bP P lib b all r (if aB P ⟨some t,op,ty,ps,af,gd⟩ then id+1 else id) (f.put t undef) T Q else False:=by
 simp only[fQ,dk]
theorem sY (o:Op)(t:Tmp)(v:Value)(s' :aq):jR P lib b all ⟨some t,o,ty,ps,af,gd⟩ r id f T Q (some (.val v s'))=if eN ⟨some t,o,ty,ps,af,gd⟩ f b=true/\bX v v=true/\t<f.n then bP P lib b all r id (f.put t v) T Q else False:=by
 simp only[jR,dk]
 by_cases h0:eN ⟨some t,o,ty,ps,af,gd⟩ f b=true<;>by_cases h1:bX v v=true<;>by_cases h2:t<f.n<;>simp[h0,h1,h2]
theorem qb (g:FuncId)(args:List Value):fP P lib b all r id f d T Q (some (.call g args))=Runs P lib g args T (fun v T' =>ar b T T' /\ff P lib b all r id f d Q v T'):=rfl
theorem qc (t:Tmp)(v:Value)(s' :aq):ff P lib b all r id f (some t) Q v s' =if t<f.n then bP P lib b all r id (f.put t v) s' Q else False:=by
 simp only[ff,dk]
theorem qd (v:Value):fP P lib b all r id f d T Q (some (.val v T))=ff P lib b all r id f d Q v T:=by
 simp only[fP,ff,ar.refl,true_and]
theorem qf (v:Value)(s' :aq):ff P lib b all r id f none Q v s' =bP P lib b all r id f s' Q:=rfl
theorem pj (v:Value)(bl:iC):jk P lib b all r id f T d Q (some (v,bl))=ff P lib b all r (id+1) f d Q v (T.put id (.dL bl)):=rfl
theorem Bv (x:Operand):eN ⟨d,.move x,ty,ps,af,gd⟩ f b=true:=rfl
theorem uz (x:Operand):eN ⟨d,.assign x,ty,ps,af,gd⟩ f b=true:=rfl
theorem Bw (x y z:Operand):eN ⟨d,.pick x y z,ty,ps,af,gd⟩ f b=true:=rfl
theorem qg (x:Operand):eN ⟨d,.nilCheck x,ty,ps,af,gd⟩ f b=true:=rfl
theorem xw (o:BinOp)(t:TypeId)(x y:Operand)(u:TypeId):eN ⟨d,.binOp o t x y u,ty,ps,af,gd⟩ f b=true:=rfl
theorem Bx (o:UnOp)(t:TypeId)(x:Operand):eN ⟨d,.unOp o t x,ty,ps,af,gd⟩ f b=true:=rfl
theorem rX (t u:TypeId)(x:Operand):eN ⟨d,.convert t u x,ty,ps,af,gd⟩ f b=true:=rfl
theorem oI (t:TypeId)(x:Operand)(i:Nat):eN ⟨d,.fieldAddr t x i,ty,ps,af,gd⟩ f b=true:=rfl
theorem xx (t:TypeId)(x:Operand)(i:Nat):eN ⟨d,.field t x i,ty,ps,af,gd⟩ f b=true:=rfl
theorem oJ (t:TypeId)(x y:Operand):eN ⟨d,.indexAddr t x y,ty,ps,af,gd⟩ f b=true:=rfl
theorem xy (t:TypeId)(x y:Operand):eN ⟨d,.index t x y,ty,ps,af,gd⟩ f b=true:=rfl
theorem rY (x:Operand)(i:Nat):eN ⟨d,.extract x i,ty,ps,af,gd⟩ f b=true:=rfl
theorem Bz (t:TypeId)(x:Operand):eN ⟨d,.load t x,ty,ps,af,gd⟩ f b=dB b (aS f x):=rfl
theorem FK (args:Array Operand)(ts:Array TypeId):eN ⟨d,.call ⟨.builtin .len,args,ts⟩,ty,ps,af,gd⟩ f b=rW (ad f args.toList):=rfl
theorem rZ (x:ByteArray):rW (some [.string x])=true:=rfl
theorem bY {i o:Nat}{c:Option Nat}(h:i<b):dB b (some (.pointer (some ⟨i,o,c⟩)))=true:=by simpa [dB,Nat.blt_eq] using h
theorem xz (t:TypeId)(x:Operand)(lo hi mx:Option Operand):eN ⟨d,.slice t x lo hi mx,ty,ps,af,gd⟩ f b=dB b (aS f x):=rfl
end
def ja (P:Program)(o:Oper):Bool:= !dg o&& !aB P o
def m9 (P:Program)(ops:List Oper):Bool:=
 let ms:=bW ops []
 ops.zipIdx.all fun x=>
  (ops.zipIdx.all fun y=> !aB P y.1||(bif Nat.blt y.2 x.2 then !ja P x.1||Nat.testBit (cC ms x.2) y.2 else !Nat.testBit (cC ms x.2) y.2))&&
  (!(aI P x.1&& !dg x.1)||(Nat.ble (countP (fun j=> !Nat.testBit (cC ms j) x.2) P ops 0) (countP (fun j=>Nat.blt j x.2) P ops 0)&&Nat.beq (countP (Nat.testBit (cC ms x.2)) P ops 0) (countP (fun j=>Nat.blt j x.2) P ops 0)))
structure fR (s0:aq) (K:Nat) (i id:Nat) (zS:List (Nat×Nat×iC)) (T U:aq):Prop extends Stands s0 K i id zS T U where
 BA:ar s0.next s0 T
 BB:ar s0.next s0 U
 ids:∀x∈zS,s0.next<=x.2.1
theorem sZ {P:Program}{o:Oper}(h:dg o=true):aI P o=true:=by
 cases hp:eK o with
 |true=>exact uu hp
 |false=>
  simp only[dg,hp,Bool.false_or] at h
  obtain⟨dst,op,type,pos,after,guard⟩:=o
  cases op<;>simp only[Ef] at h<;>try (cases h;done)
  case call cl=>
   obtain⟨callee,args,ts⟩:=cl
   cases callee with
   |builtin bi=>cases bi<;>simp only at h<;>first|rfl|(cases h;done)
   |_=>simp at h
  all_goals rfl
theorem jl {P:Program}{lib:ay}{all:List Oper}(s0:aq)(kM:List Nat){Q:aR->aq->Prop}
  (JI:∀(o:Oper) (i:Nat),all[i]?=some o->aI P o=true->dg o=false->countP (fun j=> !Nat.testBit (cC kM j) i) P all 0<=eU P all i/\countP (Nat.testBit (cC kM i)) P all 0=eU P all i)
  (Bo:∀(o p:Oper) (i j:Nat),all[i]?=some o->all[j]?=some p->aB P p=true->j<i->ja P o=true->Nat.testBit (cC kM i) j=true)
  (JJ:∀(o p:Oper) (i j:Nat),all[i]?=some o->all[j]?=some p->aB P p=true->i<=j->Nat.testBit (cC kM i) j=false):
  ∀(l pre:List Oper) (ms:List Nat) (id:Nat) (f:aR) (T U:aq) (zS:List (Nat×Nat×iC)),all=pre++l->ms=kM.drop pre.length->ms.length=l.length->id+aF P l<=s0.next+aF P all->fR s0 (aF P all) pre.length id zS T U->(∀x∈zS,∃p,all[x.1]?=some p/\aB P p=true)->bP P lib s0.next all l id f U Q->
  ∃es f' T' U',(∃n,∀m,n<=m->bQ P (fx P lib m) all ms l pre.length id f T zS=some es)/\(ax P l es T).getLastD T=T' /\bN l es f=f' /\Cl.fill (fun _=>true) T' (zS++madeOf es pre.length)=U' /\
   (∀x∈madeOf es pre.length,pre.length<=x.1/\∃p,all[x.1]?=some p/\aB P p=true)/\
   (∀x∈ax P l es T,ar s0.next s0 x)/\(∀gL before,gL=before++ax P l es T->(∀x∈gL,ar s0.next s0 x)->before.length=eU P pre pre.length->bJ P all kM (zS++madeOf es pre.length) gL ms l es pre.length f=true)/\bL s0 U' /\Q f' U' :=by
 intro l
 induction l with
 |nil=>
  intro pre ms id f T U zS _ _ hl _ aA _ hw
  rw[kR] at hw
  cases ms with
  |cons m r=>simp at hl
  |nil=>exact⟨[],f,T,U,⟨0,fun _ _=>rfl⟩,rfl,rfl,by simp only[madeOf,List.append_nil];exact aA.fill _ (fun _ _=>rfl),(fun x hx=>by simp[madeOf] at hx),(fun x hx=>by simp only[ax,List.mem_singleton] at hx;rw[hx];exact aA.BA),fun _ _ _ _ _=>rfl,aA.keeps,hw⟩
 |cons o r ih=>
  intro pre ms id f T U zS dS zD hl fc aA has hw
  cases ms with
  |nil=>simp at hl
  |cons m ms=>
  have CO:ms.length=r.length:=by simpa using hl
  have kh:all=(pre++[o])++r:=by rw[dS,List.append_assoc];rfl
  have cT:(pre++[o]).length=pre.length+1:=by simp
  have p8:ms=kM.drop (pre++[o]).length:=by
   rw[cT,<-List.drop_drop,<-zD];rfl
  have JK:cC kM pre.length=m:=by
   have kP:∀(L:List Nat) (k:Nat) (x:Nat) (t:List Nat),L.drop k=x::t->cC L k=x:=by
    intro L
    induction L with
    |nil=>intro k x t h;simp at h
    |cons y L Dc=>
     intro k x t h
     cases k with
     |zero=>simp at h;exact h.1
     |succ k=>simp only[List.drop_succ_cons] at h;simp only[cC];exact Dc k x t h
   exact kP kM pre.length m ms zD.symm
  have gq:all[pre.length]?=some o:=by rw[dS];simp
  have yQ:eU P all pre.length=eU P pre pre.length:=by rw[dS,nU]
  have vD:=sQ P o pre
  have gr:∀(v:Value) (JL:Nat) (U' :aq),(cO f o.dst v fun f' =>bP P lib s0.next all r JL f' U' Q)->∃f1,jS f o.dst v=some f1/\bP P lib s0.next all r JL f1 U' Q:=by
   intro v JL U' h
   unfold cO at h
   split at h
   ·exact⟨_,‹_›,h⟩
   ·exact h.elim
  have fk:aF P (o::r)=if aB P o then aF P r+1 else aF P r:=rfl
  have mT:ja P o=true->Cl.fill (Nat.testBit m) T zS=U:=fun hn=>aA.fill _ (fun x hx=>by
   obtain⟨p,hp,EZ⟩:=has x hx
   rw[<-JK]
   exact Bo o p pre.length x.1 gq hp EZ (aA.before x hx) hn)
  rw[jG] at hw
  cases nO:b9 all o f with
  |false=>
   rw[nO] at hw
   obtain⟨f1,hp,hw⟩:=gr _ _ _ hw
   have cI:fR s0 (aF P all) (pre++[o]).length (if aB P o then id+1 else id) zS T U:=by
    refine⟨⟨aA.fill,aA.here,fun x hx=>by have:=aA.before x hx;omega,by have:=aA.lo;split<;>omega,fun k hk kY=>aA.free k (by split at hk<;>omega) kY,aA.next,aA.keeps⟩,aA.BA,aA.BB,aA.ids⟩
   obtain⟨es,f',T',U',⟨n,h1⟩,h3,h4,hf,ki,jm,h5,hk,h6⟩:=ih (pre++[o]) ms _ f1 T U zS kh p8 CO (by rw[fk] at fc;split<;>split at fc<;>first|omega|contradiction) cI has hw
   rw[cT] at h1 h5 hf ki
   refine⟨.skip::es,f',T',U',⟨n,fun q hq=> ?_⟩,?_,by simp only[bN,Ev.val,hp,h4],by simp only[madeOf];exact hf,(fun x hx=>by simp only[madeOf] at hx;obtain⟨a,b⟩:=ki x hx;exact⟨by omega,b⟩),(fun x hx=>by
    simp only[ax] at hx
    split at hx
    ·rcases List.mem_cons.mp hx with rfl|hx
     ·exact aA.BA
     ·exact jm x hx
    ·exact jm x hx),fun gL before hs gF hb=> ?_,hk,h6⟩
   ·simp only[bQ,cV,nO,Ev.val,hp]
    rw[h1 q hq]
   ·simp only[ax]
    split
    ·obtain⟨rr,hr⟩:=dd P r es T
     rw[hr] at h3|-
     rw[List.getLastD_cons] at h3|-
     rw[List.getLastD_cons];exact h3
    ·exact h3
   ·simp only[bJ,Ev.val,hp,Bool.true_and,madeOf]
    simp only[ax] at hs
    split at hs
    ·rename_i he
     refine h5 gL (before++[T]) (by rw[hs,List.append_assoc];rfl) gF ?_
     rw[<-cT,vD,if_pos he,List.length_append,hb];rfl
    ·rename_i he
     refine h5 gL before hs gF ?_
     rw[<-cT,vD,if_neg he,hb]
  |true=>
   rw[nO] at hw
   cases hq:aI P o with
   |true=>
    simp only[fQ,hq,cond_true] at hw
    have cD:=gu hq
    have AG:=gQ hq
    rw[fk,if_neg (by simp[AG])] at fc
    unfold jR at hw
    split at hw
    case h_2=>exact hw.elim
    rename_i v s1 dZ
    obtain⟨nM,hv,hw⟩:=hw
    obtain⟨f1,hp,hw⟩:=gr _ _ _ hw
    have cI:fR s0 (aF P all) (pre++[o]).length id zS T U:=⟨⟨aA.fill,aA.here,fun x hx=>by have:=aA.before x hx;omega,aA.lo,aA.free,aA.next,aA.keeps⟩,aA.BA,aA.BB,aA.ids⟩
    obtain⟨es,f',T',U',⟨n,h1⟩,h3,h4,hf,ki,jm,h5,hk,h6⟩:=ih (pre++[o]) ms id f1 T U zS kh p8 CO fc cI has hw
    rw[cT] at h1 h5 hf ki
    have mn:∃s2,cy P o f (Cl.fill (Nat.testBit m) T zS)=some (.val v s2):=by
     cases kj:dg o with
     |true=>exact⟨_,ph kj nM aA.BB (aA.BA.trans (kQ _ _ _ _ aA.ids)) dZ⟩
     |false=>exact⟨s1,by rw[mT (by simp[ja,kj,AG])];exact dZ⟩
    obtain⟨s2,mn⟩:=mn
    refine⟨.quiet v::es,f',T',U',⟨n,fun q xo=> ?_⟩,?_,by simp only[bN,Ev.val,hp,h4],by simp only[madeOf];exact hf,(fun x hx=>by simp only[madeOf] at hx;obtain⟨a,b⟩:=ki x hx;exact⟨by omega,b⟩),(fun x hx=>jm x (by simpa [ax,cD] using hx)),fun gL before hs gF hb=> ?_,hk,h6⟩
    ·simp only[bQ,cV,nO,hq,mn,Ev.val,hp,AG]
     rw[if_neg (by simp),h1 q xo]
    ·simp only[ax,cD];simpa using h3
    ·have rf:gL=before++ax P r es T:=by simpa [ax,cD] using hs
     simp only[bJ,Ev.val,hp,madeOf]
     rw[h5 gL before rf gF (by rw[<-cT,vD,if_neg (by simp[cD]),hb]),Bool.and_true]
     have V9:∀X:aq,Cl.fill (Nat.testBit m) X (zS++madeOf es (pre.length+1))=Cl.fill (Nat.testBit m) X zS:=by
      intro X
      rw[gJ,sR _ (madeOf es (pre.length+1))]
      intro x hx
      obtain⟨a,p,Jz,EZ⟩:=ki x hx
      rw[<-JK]
      exact JJ o p pre.length x.1 gq Jz EZ (by omega)
     have j6:∀(L:List aq),(∀x∈L,ar s0.next s0 x)->(dg o=false->∀x∈L,x=T)->sameAt P m (zS++madeOf es (pre.length+1)) o f v L=true:=by
      intro L
      induction L with
      |nil=>intro _ _;rfl
      |cons x L Dc=>
       intro kC hx
       simp only[sameAt,V9]
       have:∃s3,cy P o f (Cl.fill (Nat.testBit m) x zS)=some (.val v s3):=by
        cases kj:dg o with
        |true=>exact⟨_,ph kj nM aA.BB ((kC x (List.mem_cons_self ..)).trans (kQ _ _ _ _ aA.ids)) dZ⟩
        |false=>rw[hx kj x (List.mem_cons_self ..)];exact⟨s2,mn⟩
       obtain⟨s3,ij⟩:=this
       rw[ij]
       simp only[hv,Bool.true_and]
       exact Dc (fun y hy=>kC y (List.mem_cons_of_mem _ hy)) (fun kj y hy=>hx kj y (List.mem_cons_of_mem _ hy))
     refine j6 _ (fun x hx=>gF x (List.mem_of_mem_take (List.mem_of_mem_drop hx))) (fun kj x hx=> ?_)
     obtain⟨t1,t2⟩:=JI o pre.length gq hq kj
     rw[JK] at t2
     rw[t2] at hx
     obtain⟨rr,hr⟩:=dd P r es T
     rw[yQ,<-hb,List.drop_take,rf,hr,List.drop_left] at hx
     have iW:countP (fun j=> !Nat.testBit (cC kM j) pre.length) P all 0+1-before.length<=1:=by omega
     generalize countP (fun j=> !Nat.testBit (cC kM j) pre.length) P all 0+1-before.length=k at hx iW
     cases k with
     |zero=>simp at hx
     |succ k=>
      obtain rfl:k=0:=by omega
      simpa using hx
   |false=>
    cases ha:aB P o with
    |true=>
     simp only[fQ,hq,ha,cond_true,cond_false] at hw
     rw[fk,if_pos ha] at fc
     have cD:aY P o=false:=by simp[aY,ha]
     unfold jk at hw
     split at hw
     case h_2=>exact hw.elim
     rename_i v b dZ
     obtain⟨f1,hp,hw⟩:=gr _ _ _ hw
     have JM:∃s1,cy P o f ⟨.nil,id⟩=some (.val v s1)/\s1.bK id=some b:=by
      unfold cR at dZ
      split at dZ
      ·rename_i v1 s1 h1
       split at dZ
       ·rename_i b1 jv
        injection dZ with dZ;injection dZ with e1 e2;subst e1;subst e2
        exact⟨s1,h1,jv⟩
       ·cases dZ
      ·cases dZ
     obtain⟨s1,mO,fK⟩:=JM
     have gI:=aA.free id (Nat.le_refl _) (by omega)
     have aP:id<U.next:=by have:=aA.next;omega
     have cI:fR s0 (aF P all) (pre++[o]).length (id+1) (zS++[(pre.length,id,b)]) T (U.put id (.dL b)):=by
      refine⟨⟨fun p hp=> ?_,fun x hx=> ?_,fun x hx=> ?_,by have:=aA.lo;omega,fun k hk kY=> ?_,by have:=aA.next;simpa [aq.put] using this,?_⟩,aA.BA,aA.BB.trans ⟨Nat.le_refl _,fun i hi=>aq.a8 _ _ _ _ (by have:=aA.lo;omega)⟩,fun x hx=> ?_⟩
      ·rw[gJ,aA.fill p (fun x hx=>hp x (List.mem_append_left _ hx))]
       have Gv:p pre.length=true:=hp (pre.length,id,b) (List.mem_append_right _ (List.mem_cons_self ..))
       simp only[Cl.fill,Gv,gI]
      ·rcases List.mem_append.mp hx with hx|hx
       ·have hh:=aA.here x hx
        have:x.2.1≠id:=fun e=>hh (by rw[e];exact gI)
        rw[aq.a8 _ _ _ _ (Ne.symm this)];exact hh
       ·rw[List.mem_singleton] at hx;subst hx
        simp only[aq.put,Tr.bu _ _ _ _ (deep (by omega))];simp
      ·rcases List.mem_append.mp hx with hx|hx
       ·have:=aA.before x hx;omega
       ·rw[List.mem_singleton] at hx;subst hx;simp
      ·rw[aq.a8 _ _ _ _ (by omega)];exact aA.free k (by omega) kY
      ·have hk:=aA.keeps
       refine⟨hk.next,fun j hj hn=> ?_,fun j hj=> ?_,⟨by omega,fun j ob hj=> ?_⟩⟩
       ·have:=aA.lo
        rw[aq.a8 _ _ _ _ (by omega)];exact hk.gone j hj hn
       ·by_cases fZ:id=j
        ·subst fZ;simp only[aq.put,Tr.bu _ _ _ _ (deep (by omega))];simp
        ·rw[aq.a8 _ _ _ _ fZ];exact hk.here j hj
       ·by_cases fZ:id=j
        ·subst fZ;simpa [aq.put] using aP
        ·rw[aq.a8 _ _ _ _ fZ] at hj;have:=hk.wf.bound j ob hj;simpa [aq.put] using this
      ·rcases List.mem_append.mp hx with hx|hx
       ·exact aA.ids x hx
       ·rw[List.mem_singleton] at hx;subst hx;exact aA.lo
     have JN:∀x∈zS++[(pre.length,id,b)],∃p,all[x.1]?=some p/\aB P p=true:=by
      intro x hx
      rcases List.mem_append.mp hx with hx|hx
      ·exact has x hx
      ·rw[List.mem_singleton] at hx;subst hx;exact⟨o,gq,ha⟩
     obtain⟨es,f',T',U',⟨n,h1⟩,h3,h4,hf,ki,jm,h5,hk,h6⟩:=ih (pre++[o]) ms (id+1) f1 T _ _ kh p8 CO (by omega) cI JN hw
     rw[cT] at h1 h5 hf ki
     have PU:∀L,zS++(pre.length,id,b)::L=(zS++[(pre.length,id,b)])++L:=fun L=>by rw[List.append_assoc];rfl
     refine⟨.made v id b::es,f',T',U',⟨n,fun q xo=> ?_⟩,?_,by simp only[bN,Ev.val,hp,h4],by simp only[madeOf];rw[PU];exact hf,(fun x hx=> ?_),(fun x hx=>jm x (by simpa [ax,cD] using hx)),fun gL before hs gF hb=> ?_,hk,h6⟩
     ·simp only[bQ,cV,nO,hq,ha,mO,fK,Ev.val,hp,if_true]
      rw[h1 q xo]
     ·simp only[ax,cD];simpa using h3
     ·simp only[madeOf] at hx
      rcases List.mem_cons.mp hx with rfl|hx
      ·exact⟨Nat.le_refl _,o,gq,ha⟩
      ·obtain⟨a,c⟩:=ki x hx;exact⟨by omega,c⟩
     ·simp only[bJ,Ev.val,hp,Bool.true_and,madeOf]
      rw[PU]
      have rf:gL=before++ax P r es T:=by simpa [ax,cD] using hs
      exact h5 gL before rf gF (by rw[<-cT,vD,if_neg (by simp[cD]),hb])
    |false=>
     simp only[fQ,hq,ha,cond_false] at hw
     rw[fk,if_neg (by simp[ha])] at fc
     have he:aY P o=true:=by simp[aY,hq,ha]
     have kj:dg o=false:=by
      cases kj:dg o with
      |false=>rfl
      |true=>rw[sZ kj] at hq;cases hq
     have hU:=mT (by simp[ja,kj,ha])
     have fin:∀(v:Value) (U1:aq) (n0:Nat),(∀q,n0<=q->cV P (fx P lib q) all m id zS o f T=some (.zc v U1))->bL U U1->ar s0.next U U1->(cO f o.dst v fun f' =>bP P lib s0.next all r id f' U1 Q)->
       ∃es f' T' U',(∃n,∀m',n<=m' ->bQ P (fx P lib m') all (m::ms) (o::r) pre.length id f T zS=some es)/\(ax P (o::r) es T).getLastD T=T' /\bN (o::r) es f=f' /\Cl.fill (fun _=>true) T' (zS++madeOf es pre.length)=U' /\
        (∀x∈madeOf es pre.length,pre.length<=x.1/\∃p,all[x.1]?=some p/\aB P p=true)/\
        (∀x∈ax P (o::r) es T,ar s0.next s0 x)/\(∀gL before,gL=before++ax P (o::r) es T->(∀x∈gL,ar s0.next s0 x)->before.length=eU P pre pre.length->bJ P all kM (zS++madeOf es pre.length) gL (m::ms) (o::r) es pre.length f=true)/\bL s0 U' /\Q f' U' :=by
      intro v U1 n0 hd xp Eg hw
      obtain⟨f1,hp,hw⟩:=gr _ _ _ hw
      have rS:∀x∈zS,U1.heap.get x.2.1≠none:=fun x hx=>xp.here _ (aA.here x hx)
      have cI:fR s0 (aF P all) (pre++[o]).length id zS U1 U1:=by
       refine⟨⟨fun p hp=>sS p zS U1 rS,rS,fun x hx=>by have:=aA.before x hx;omega,aA.lo,fun k hk kY=>xp.gone k (by have:=aA.next;omega) (aA.free k hk kY),by have:=aA.next;have:=xp.next;omega,aA.keeps.trans xp⟩,aA.BB.trans Eg,aA.BB.trans Eg,aA.ids⟩
      obtain⟨es,f',T',U',⟨n,h1⟩,h3,h4,hf,ki,jm,h5,hk,h6⟩:=ih (pre++[o]) ms id f1 U1 U1 zS kh p8 CO fc cI has hw
      rw[cT] at h1 h5 hf ki
      refine⟨.zc v U1::es,f',T',U',⟨n+n0,fun q xo=> ?_⟩,?_,by simp only[bN,Ev.val,hp,h4],by simp only[madeOf];exact hf,(fun x hx=>by simp only[madeOf] at hx;obtain⟨a,b⟩:=ki x hx;exact⟨by omega,b⟩),(fun x hx=>by
       simp only[ax] at hx
       rcases List.mem_cons.mp hx with rfl|hx
       ·exact aA.BA
       ·exact jm x hx),fun gL before hs gF hb=> ?_,hk,h6⟩
      ·simp only[bQ,hd q (by omega),Ev.val,hp,ha]
       rw[if_neg (by simp),h1 q (by omega)]
      ·simp only[ax]
       obtain⟨rr,hr⟩:=dd P r es U1
       rw[hr] at h3|-
       rw[List.getLastD_cons] at h3|-
       rw[List.getLastD_cons];exact h3
      ·simp only[bJ,Ev.val,hp,Bool.true_and,madeOf]
       simp only[ax] at hs
       refine h5 gL (before++[T]) (by rw[hs,List.append_assoc];rfl) gF ?_
       rw[<-cT,vD,if_pos he,List.length_append,hb];rfl
     unfold fP at hw
     split at hw
     case h_3=>exact hw.elim
     ·rename_i v U1 dZ
      obtain⟨Eg,hw⟩:=hw
      exact fin v U1 0 (fun q _=>by simp only[cV,nO,hq,ha,hU,dZ]) (oX aA.keeps.wf dZ) Eg hw
     ·rename_i g args dZ
      obtain⟨v,U1,⟨nc,hc⟩,xp,Eg,hw⟩:=hw aA.keeps.wf
      exact fin v U1 nc (fun q xo=>by simp only[cV,nO,hq,ha,hU,dZ,hc q xo]) xp Eg hw
theorem cF.loose {P:Program}{lib:ay}{ops:List Oper}(ht:m9 P ops=true){f:aR}{s:aq}{Q:aR->aq->Prop}(h:bP P lib s.next ops ops s.next f (spare s (aF P ops)) Q):cF P lib ops f s Q:=by
 intro mE
 simp only[m9,List.all_eq_true,Bool.and_eq_true,Bool.or_eq_true,Bool.not_eq_true'] at ht
 have jU:∀(o:Oper) (i:Nat),ops[i]?=some o->(o,i)∈ops.zipIdx:=fun o i hi=>by rw[List.mem_zipIdx_iff_getElem?];simpa using hi
 have zD:(bW ops []).length=ops.length:=by
  obtain⟨r,h1,h2⟩:=jP ops []
  rw[h1];simpa using h2
 have gI:∀k,s.next<=k->s.heap.get k=none:=fun k iW=>by
  cases hg:s.heap.get k with
  |none=>rfl
  |some o=>have:=mE.bound k o hg;omega
 have zA:bL s (spare s (aF P ops)):=⟨by simp[spare],fun _ _ h=>h,fun _ h=>h,⟨by omega,fun j o hj=>by have:=mE.bound j o hj;simp only[spare];omega⟩⟩
 obtain⟨es,f',T',U',⟨n,h1⟩,h3,h4,hf,ki,jm,h5,hk,h6⟩:=jl (P:=P) (lib:=lib) (all:=ops) s (bW ops []) (Q:=Q) (fun o i hi hq hp=>by
   have:=(ht (o,i) (jU o i hi)).2
   have CL:=ji P ops 0 i
   rw[Nat.zero_add] at CL
   rcases this with h|h
   ·simp[hq,hp] at h
   ·obtain⟨t1,t2⟩:=h
    rw[CL] at t1 t2
    exact⟨by simpa [Nat.ble_eq] using t1,by simpa [Nat.beq_eq] using t2⟩)
  (fun o p i j hi hj ha fZ hn=>by
   have:=(ht (o,i) (jU o i hi)).1 (p,j) (jU p j hj)
   have hb:Nat.blt j i=true:=by simpa [Nat.blt_eq] using fZ
   simp only[ha,hb,cond_true,hn] at this
   simpa using this)
  (fun o p i j hi hj ha zj=>by
   have:=(ht (o,i) (jU o i hi)).1 (p,j) (jU p j hj)
   have hb:Nat.blt j i=false:=by rw[<-Bool.not_eq_true,Nat.blt_eq];omega
   simp only[ha,hb,cond_false] at this
   simpa using this)
  ops [] (bW ops []) s.next f (spare s (aF P ops)) (spare s (aF P ops)) [] rfl rfl zD (by omega)
  ⟨⟨fun _ _=>rfl,fun _ hx=>(by cases hx),fun _ hx=>(by cases hx),Nat.le_refl _,fun k iW _=>gI k iW,by simp[spare],zA⟩,ar.spare _ _,ar.spare _ _,fun _ hx=>(by cases hx)⟩ (fun _ hx=>(by cases hx)) h
 simp only[List.nil_append,List.length_nil] at h1 h5 hf ki
 refine⟨f',U',⟨n,fun m hm=> ?_⟩,hk,h6⟩
 unfold fj
 have M3:=h1 m hm
 have hb:Nat.ble 0 16000000=true:=rfl
 simp only[]
 show(match bQ P (fx P lib m) ops (bW ops []) ops 0 s.next f (spare s (aF P ops)) [] with
  |some es=>match bJ P ops (bW ops []) (madeOf es 0) (ax P ops es (spare s (aF P ops))) (bW ops []) ops es 0 f with
   |true=>some (bN ops es f,Cl.fill (fun _=>true) ((ax P ops es (spare s (aF P ops))).getLastD s) (madeOf es 0))
   |false=>none
  |none=>none)=_
 rw[M3]
 have R8:=h5 (ax P ops es (spare s (aF P ops))) [] rfl jm rfl
 simp only[R8,h4]
 obtain⟨rr,hr⟩:=dd P ops es (spare s (aF P ops))
 rw[hr] at h3|-
 rw[List.getLastD_cons] at h3|-
 rw[h3,hf]
theorem cF.dy {P:Program}{lib:ay}{ops:List Oper}{f:aR}{s:aq}{Q:aR->aq->Prop}(k:Nat)(ht:m9 P ops=true)(hk:Nat.beq (aF P ops) k=true)(h:bP P lib s.next ops ops s.next f (spare s k) Q):yq P lib ops f s Q false:=by
 have:aF P ops=k:=by simpa [Nat.beq_eq] using hk
 exact cF.loose ht (by rw[this];exact h)
section
variable {P:Program} {lib:ay} {b:Nat} {all r:List Oper} {id:Nat} {f:aR} {T:aq} {d:Option Tmp} {Q:aR->aq->Prop}
theorem bF {cs:List Value}{n z base:Nat}(h:cs.length=n*z)(fc:id<T.next)(hb:base<=id)
  (K:∀v T',Own T' z v n cs->aJ v=some id->ar base T T' ->T'.next=T.next->(∀j,j≠id->T'.heap.get j=T.heap.get j)->ff P lib b all r (id+1) f d Q v T'):jk P lib b all r id f T d Q (cR id (lZ (aX ⟨.nil,id⟩ cs n z))):=by
 have e:cR id (lZ (aX ⟨.nil,id⟩ cs n z))=some (.slice (some ⟨id,0,none⟩) n (cs.length+1),⟨cs,1,true,z⟩):=by
  have:aX ⟨.nil,id⟩ cs n z=some (.slice (some ⟨id,0,none⟩) n (cs.length+1),(⟨.nil,id⟩:aq).new (.dL ⟨cs,1,true,z⟩)):=by simp[aX,aq.room]
  rw[this,dW]
  have hb:((⟨.nil,id⟩:aq).new (.dL ⟨cs,1,true,z⟩)).bK id=some ⟨cs,1,true,z⟩:=lh ⟨.nil,id⟩ _
  simp only[cR,hb]
 rw[e,pj]
 have wQ:∀j,j≠id->(T.put id (.dL ⟨cs,1,true,z⟩)).heap.get j=T.heap.get j:=fun j hj=>aq.a8 _ _ _ _ (Ne.symm hj)
 refine K _ _ (.of id n 1 cs (by simpa [aq.put] using fc) (aq.cg _ _ _ (by omega)) (by omega) h) rfl ⟨Nat.le_refl _,fun j hj=>wQ j (by omega)⟩ rfl wQ
theorem cZ {st xt e:TypeId}{xd:TypeDesc}{z lX:Nat}{zv:Value}(hu:P.underlying st=some (.slice e))(Nf:P.underlying xt=some xd)(Gw:(∃e2,xd= .slice e2)\/xd= .string)(cJ:bq P e=some z)(yg:eW P e=some lX)(qW:cE P e=some zv)(mf:Nat.beq zv.cells.toList.length z=true)
  {x y:Value} {n m:Nat} {l new:List Value} (hx:Own T z x n l) (hy:dJ T z y=some (m,new)) (ir:new.length=m*z) (sJ:0<z) (dE:new.all aO=true) (jv:(n+m)*lX<=140737488355328) (eR:n+m<=140737488355328) (hF:aN b x) (hB:b<=T.next)
  (K:∀x' T',Own T' z x' (n+m) (l++new)->aN b x' ->ar b T T' ->bm x T T' ->(aJ x' =aJ x\/∃i,aJ x' =some i/\T.next<=i)->ff P lib b all r id f d Q x' T'):fP P lib b all r id f d T Q (lZ (gl P T st xt x y)):=by
 obtain⟨x',s',h1,h2,h3,h4⟩:=Own.append hu Nf Gw cJ yg qW mf hx hy ir sJ dE jv eR
 rw[h1,dW]
 have hk:=h3.keeps hF hB
 refine⟨hk,K _ _ h2 (fun i hi=> ?_) hk h3 h4⟩
 rcases h4 with h4|⟨j,hj,hl⟩
 ·exact hF i (by rw[<-h4];exact hi)
 ·rw[hj] at hi;injection hi with hi;omega
end
end Go.Cl
