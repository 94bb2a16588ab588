import Derived.Test.YtdfjfncifneocaaGreatNfE
open _root_ renaming reduceIte->ab,Nat->ao,eq_false->a0,List->a8,Int->bw,eq_true->bz,UInt8->b4,if_neg->b5,Except->b7,if_pos->b8,decide_eq_false->ck,decide_eq_true->cv,of_decide_eq_true->dA,true_and->en
open List renaming getD_eq_getElem?_getD->af,replicate->bb,length_append->cg,getElem?_append_left->ch,length_replicate->cD,length_take->cL,length_cons->cM,getElem?_append_right->cU,getElem?_take_of_lt->c9,getElem?_replicate->dk,length_drop->dP,length_nil->dT
open Go.Proofs.Tryz renaming prog->aC,results166->cp,underlying22->cx,underlying180->c7,underlying219->dw,results117->eb,results187->ec,results215->ed,results212->ee
open Go renaming Value->bk,Program->eh
open Nat renaming lt_of_lt_of_le->bq,le_trans->cd,mul_one->cT,le_refl->c8,reduceAdd->dc,zero_le->ds,pow_le_pow_right->dt,add_sub_cancel->dv,sub_self->dI,reduceSub->eg
open Int renaming toNat_natCast->cc
open Nat renaming reduceLT->QM,reduceEqDiff->WP
set_option maxHeartbeats 16000000
set_option linter.unusedSimpArgs false
set_option linter.unusedVariables false
set_option maxRecDepth 100000
namespace Go.Cl.Fx
theorem lC.EO {jf jb:ao}{o y:bk}{s t t' :au}(h:lC jf jb o s o t)(k:bG y t t')(hy:∀i,aI y=some i->s.next<=i):lC jf jb o s o t' :=
 ⟨cd h.next k.next,fun i hi h1 h2 h3=>(k.get i (bq hi h.next) (fun e=>by have:=hy i e;omega)).trans (h.get i hi h1 h2 h3),.inl rfl⟩
theorem lC.kept {jf jb:ao}{o:bk}{s t t' :au}(h:lC jf jb o s o t)(k:aw t.next t t'):lC jf jb o s o t' :=
 ⟨cd h.next k.next,fun i hi h1 h2 h3=>(k.get i (bq hi h.next)).trans (h.get i hi h1 h2 h3),.inl rfl⟩
end Go.Cl.Fx
namespace Go.Cl
namespace LB
theorem Av {P:eh}{lib:aD}{A:ao->Bool}{g:ao}{all r:a8 Oper}{id:ao}{f:aZ}{T:au}{d:Option Tmp}{Q:aZ->au->Prop}{e:TypeId}(cX:br P e=some 1){v:bk}{n:ao}{l:a8 bk}(h:Own T 1 v n l){k:ao}(hk:k<n){w:bk}(hw:aT w=true)(BR:g≠0->∀i,aI v=some i->A i=false)(Bf:∀i,A i=true->i<T.next)
  (K:∀T',Own T' 1 v n (l.set k w)->bG v T T' ->fq P lib A (g-1) all r id f d Q undef T'):gk P lib A g all r id f d T Q (Fk (fw P T e (aX 1 v k) w)):=by
 obtain⟨s',h1,h2,h3⟩:=h.put cX hk hw;rw[h1,kW,vz];exact⟨fun hg=>⟨h3.next,fun i hi=>h3.get i (Bf i hi) (fun e=>by have:=BR hg i e;rw[hi] at this;cases this)⟩,K s' h2 h3⟩
end LB
end Go.Cl
namespace Go.Cl.Nf
open Go.Cl.Fx Go.Cl.Sto
theorem nOY {P:eh}{lib:aD}{all:a8 Oper}{o:Oper}{r:a8 Oper}{f:aZ}{s:au}{c:Code}{Q:AX->aZ->au->Prop}{b:Bool}(J:aZ->au->Prop)(h1:∀Q' :AX->aZ->au->Prop,(∀f' s',J f' s' ->Q' .normal f' s')->pk P lib all o r f s (oD P lib c Q' .normal) b)(h2:∀f' s',J f' s' ->Q .normal f' s'):pk P lib all o r f s (oD P lib c Q .normal) b:=h1 Q h2
theorem EP {P:eh}{lib:aD}{cA cB:Code}{f:aZ}{s:au}{Q:AX->aZ->au->Prop}{b:Bool}(J:aZ->au->Prop)(h1:∀Q' :AX->aZ->au->Prop,(∀f' s',J f' s' ->Q' .normal f' s')->WZ P lib cA cB f s Q' b)(h2:∀f' s',J f' s' ->Q .normal f' s'):WZ P lib cA cB f s Q b:=h1 Q h2
def N1 (x:b7 ao ao)(c:Prop)[Decidable c]:b7 ao ao:=match x with| .ok p=>if c then .error 4 else .ok p| .error e=> .error e
theorem PE (e:ao)(c:Prop)[Decidable c]:N1 (.error e) c= .error e:=rfl
theorem oS (p:ao){c:Prop}[Decidable c](h:c):N1 (.ok p) c= .error 4:=b8 h
theorem sJ (p:ao){c:Prop}[Decidable c](h:¬c):N1 (.ok p) c= .ok p:=b5 h
theorem RH (D:a8 b4)(e n:ao):jP D (.error e) n= .error e:=rfl
theorem kx {D:a8 b4}{p n:ao}(h:p+n<=8*D.length):gW D (.ok p) n=bY D p n:=b8 h
theorem jG {D:a8 b4}{p n:ao}(h:p+n<=8*D.length):jP D (.ok p) n= .ok (p+n):=b8 h
theorem jH {D:a8 b4}{p n:ao}(h:¬p+n<=8*D.length):jP D (.ok p) n= .error 2:=b5 h
theorem head_eq {D:a8 b4}{p n5 d5 k4:ao}{x1 x2 x3 x4 x5:b7 ao ao}(h1:n5=gW D (.ok p) 5)(h2:x1=jP D (.ok p) 5)(h3:x2=N1 x1 (29<n5))(h4:d5=gW D x2 5)(h5:x3=jP D x2 5)(h6:x4=N1 x3 (29<d5))(h7:k4=gW D x4 4)(h8:x5=jP D x4 4):
  (rR D p= .ok (n5+257,d5+1,k4+4)/\x5= .ok (p+14)/\n5<=29/\d5<=29)\/(∃e,rR D p= .error e/\x5= .error e):=by
 unfold rR;by_cases c1:p+5<=8*D.length;rotate_left
 ·rw[jH c1] at h2;subst h2 h3 h5 h6 h8;exact .inr ⟨2,by rw[dO c1],rfl⟩
 rw[kx c1] at h1;rw[jG c1] at h2;subst h1 h2;rw[dn c1];dsimp only;by_cases c2:29<bY D p 5
 ·rw[oS _ c2] at h3;subst h3 h5 h6 h8;exact .inr ⟨4,by rw[b8 c2],rfl⟩
 rw[sJ _ c2] at h3;subst h3;rw[b5 c2];by_cases c3:p+5+5<=8*D.length;rotate_left
 ·rw[jH c3] at h5;subst h5 h6 h8;exact .inr ⟨2,by rw[dO c3],rfl⟩
 rw[kx c3] at h4;rw[jG c3] at h5;subst h4 h5;rw[dn c3];dsimp only;by_cases c4:29<bY D (p+5) 5
 ·rw[oS _ c4] at h6;subst h6 h8;exact .inr ⟨4,by rw[b8 c4],rfl⟩
 rw[sJ _ c4] at h6;subst h6;rw[b5 c4];by_cases c5:p+5+5+4<=8*D.length;rotate_left
 ·rw[jH c5] at h8;exact .inr ⟨2,by rw[show p+10=p+5+5 by omega,dO c5],h8⟩
 rw[kx c5] at h7;rw[jG c5] at h8;rw[show p+10=p+5+5 by omega,dn c5];exact .inl ⟨by rw[h7],by rw[h8],by omega,by omega⟩
def Gp (D:a8 b4):a8 ao->b7 ao ao->a8 ao->b7 ao ao×a8 ao
 |[],x,o=>(x,o)
 |i::r,x,o=>Gp D r (jP D x 3) (o.set i (gW D x 3))
theorem ES (D:a8 b4)(e:ao):∀r o,(Gp D r (.error e) o).1= .error e
 |[],o=>rfl
 |i::r,o=>ES D e r _
theorem Vh (D:a8 b4):∀(r:a8 ao) (p:ao) (o:a8 ao),(∃o' q,zi D r p o= .ok (o',q)/\Gp D r (.ok p) o=(.ok q,o'))\/(∃e,zi D r p o= .error e/\(Gp D r (.ok p) o).1= .error e)
 |[],p,o=> .inl ⟨o,p,rfl,rfl⟩
 |i::r,p,o=>by
  unfold zi Gp;by_cases c:p+3<=8*D.length
  ·rw[dn c,jG c,kx c];exact Vh D r (p+3) _
  rw[dO c,jH c];exact .inr ⟨2,rfl,ES D 2 r _⟩
def lY (D:a8 b4)(s:ao)(x:b7 ao ao)(l:a8 ao):ao×ao×b7 ao ao:=
 match x with
 | .error e=>(s,1,.error e)
 | .ok q=>if s=16 then(if l.length=0 then(s,1,.error 4) else(l.getD (l.length-1) 0,3+gW D (.ok q) 2,jP D (.ok q) 2))
  else if s=17 then(0,3+gW D (.ok q) 3,jP D (.ok q) 3)
  else if s=18 then(0,11+gW D (.ok q) 7,jP D (.ok q) 7)
  else(s,1,.ok q)
def xE (y:b7 ao (ao×ao)):ao×b7 ao ao:=match y with| .ok (s,q)=>(s,.ok q)| .error e=>(0,.error e)
def qm {α β:Type}(x:b7 ao α)(f:α->b7 ao β):b7 ao β:=match x with| .ok a=>f a| .error e=> .error e
theorem RI {D:a8 b4}{C:a8 ao}{M k p:ao}{l:a8 ao}{a:ao×ao×b7 ao ao}{x:b7 ao ao}(hM:¬M<=l.length)(ha:a=lY D (xE (sym D C p)).1 (xE (sym D C p)).2 l)(hx:x=N1 a.2.2 (M<l.length+a.2.1)):
  ku D C M (k+1) p l=qm x fun q=>ku D C M k q (l++bb a.2.1 a.1):=by
 rw[ku,b5 hM];cases hs:sym D C p with
 |error e=>
  rw[hs] at ha;have ha:a=(0,1,.error e):=ha;subst ha hx;rfl
 |ok y=>
  obtain⟨s,q⟩:=y;rw[hs] at ha;dsimp only;have ha:a=lY D s (.ok q) l:=ha;unfold oA;unfold lY at ha;dsimp only at ha;have fin:∀(v n r:ao),a=(v,n,.ok r)->(match (Except.ok (v,n,r):b7 ao (ao×ao×ao)) with| .error e=>(.error e:b7 ao (a8 ao×ao))| .ok (x,n,r)=>if M<l.length+n then .error 4 else ku D C M k r (l++bb n x))=qm x fun q=>ku D C M k q (l++bb a.2.1 a.1):=by
   intro v n r e;subst e;by_cases c:M<l.length+n
   ·have hx:x= .error 4:=by rw[hx];exact oS _ c
    subst hx;dsimp only;rw[b8 c];rfl
   have hx:x= .ok r:=by rw[hx];exact sJ _ c
   subst hx;dsimp only;rw[b5 c];rfl
  have bad:∀(v n e:ao),a=(v,n,.error e)->(.error e:b7 ao (a8 ao×ao))=qm x fun q=>ku D C M k q (l++bb a.2.1 a.1):=by
   intro v n e h;subst h;have hx:x= .error e:=hx;subst hx;rfl
  by_cases c1:s=16
  ·rw[b8 c1] at ha|-
   by_cases c2:l.length=0
   ·rw[b8 c2] at ha|-
    exact bad _ _ _ ha
   rw[b5 c2] at ha|-
   by_cases c3:q+2<=8*D.length
   ·rw[kx c3,jG c3] at ha;rw[dn c3];exact fin _ _ _ ha
   rw[jH c3] at ha;rw[dO c3];exact bad _ _ _ ha
  rw[b5 c1] at ha|-
  by_cases c1:s=17
  ·rw[b8 c1] at ha|-
   by_cases c3:q+3<=8*D.length
   ·rw[kx c3,jG c3] at ha;rw[dn c3];exact fin _ _ _ ha
   rw[jH c3] at ha;rw[dO c3];exact bad _ _ _ ha
  rw[b5 c1] at ha|-
  by_cases c1:s=18
  ·rw[b8 c1] at ha|-
   by_cases c3:q+7<=8*D.length
   ·rw[kx c3,jG c3] at ha;rw[dn c3];exact fin _ _ _ ha
   rw[jH c3] at ha;rw[dO c3];exact bad _ _ _ ha
  rw[b5 c1] at ha|-
  exact fin _ _ _ ha
theorem Vi {l r:a8 ao}{i:ao}:(l++r).getD i 0=if i<l.length then l.getD i 0 else r.getD (i-l.length) 0:=by
 simp only[af];by_cases c:i<l.length
 ·rw[b8 c,ch c]
 rw[b5 c,cU (by omega)]
theorem Lj {l:a8 ao}{n v:ao}(h:sI l)(hv:v<=15):sI (l++bb n v):=by
 intro i;rw[Vi];split
 ·exact h i
 rw[af,dk];split
 ·exact hv
 exact ds _
theorem HQ {l:a8 ao}(h:sI l)(n:ao):sI (l.take n):=by
 intro i;by_cases c:i<n
 ·have:(l.take n).getD i 0=l.getD i 0:=by rw[af,c9 c,af]
  rw[this];exact h i
 rw[af,List.getElem?_eq_none (by rw[cL];omega)];exact ds _
theorem HR {l:a8 ao}(h:sI l)(n:ao):sI (l.drop n):=by
 intro i;have:(l.drop n).getD i 0=l.getD (n+i) 0:=by rw[af,List.getElem?_drop,af]
 rw[this];exact h _
theorem Ll {D:a8 b4}{s:ao}{x:b7 ao ao}{l:a8 ao}(hs:s<=18)(hl:sI l):(lY D s x l).2.1<=200/\(∀q,(lY D s x l).2.2= .ok q->(lY D s x l).1<=15)/\(lY D s x l).1<=18:=by
 cases x with
 |error e=>exact⟨by simp[lY],fun q h=>by simp[lY] at h,hs⟩
 |ok q=>
  unfold lY;dsimp only;have h2:=lF D (.ok q) 2;have h3:=lF D (.ok q) 3;have h7:=lF D (.ok q) 7;split
  ·split
   ·exact⟨by simp,fun q h=>by simp at h,hs⟩
   exact⟨by dsimp only;omega,fun _ _=>hl _,by dsimp only;have:=hl (l.length-1);omega⟩
  split
  ·exact⟨by dsimp only;omega,fun _ _=>by simp,by simp⟩
  split
  ·exact⟨by dsimp only;omega,fun _ _=>by simp,by simp⟩
  exact⟨by simp,fun _ _=>by dsimp only;omega,hs⟩
theorem RJ {D:a8 b4}{s q q' :ao}{l:a8 ao}(h:(lY D s (.ok q) l).2.2= .ok q'):q<=q' :=by
 have tk:∀n,jP D (.ok q) n= .ok q' ->q<=q' :=fun n h=>by
  by_cases c:q+n<=8*D.length
  ·rw[jG c] at h;injection h with h;omega
  rw[jH c] at h;cases h
 unfold lY at h;dsimp only at h;split at h
 ·split at h
  ·cases h
  exact tk _ h
 split at h
 ·exact tk _ h
 split at h
 ·exact tk _ h
 injection h with h;omega
theorem abz {x:b7 ao ao}{c:Prop}[Decidable c]{q:ao}(h:N1 x c= .ok q):x= .ok q/\¬c:=by
 cases x with
 |error e=>cases h
 |ok p=>
  by_cases hc:c
  ·rw[oS _ hc] at h;cases h
  rw[sJ _ hc] at h;exact⟨h,hc⟩
theorem iS {α β:Type}(a:α)(f:α->b7 ao β):qm (.ok a) f=f a:=rfl
theorem nK {α β:Type}(e:ao)(f:α->b7 ao β):qm (.error e) f= .error e:=rfl
theorem abA {N:ao}{D:a8 b4}{p n5 d5 k4:ao}{x5 x6 x7:b7 ao ao}{oL:a8 ao}{R2:b7 ao (a8 ao×ao)}(hh:(rR D p= .ok (n5+257,d5+1,k4+4)/\x5= .ok (p+14)/\n5<=29/\d5<=29)\/(∃e,rR D p= .error e/\x5= .error e))
  (h6:Gp D (order.take (k4+4)) x5 (bb 19 0)=(x6,oL)) (h7:x7=N1 x6 (¬na oL)) (hR:R2=qm x7 fun q=>ku D oL (n5+257+(d5+1)) N q []):
  zj N D p=qm R2 fun y=>if na (y.1.take (n5+257))/\na (y.1.drop (n5+257))/\y.1.getD 256 0≠0 then .ok ((y.1.take (n5+257),y.1.drop (n5+257)),y.2) else .error 4:=by
 unfold zj;rcases hh with ⟨h1,rfl,-,-⟩|⟨e,h1,rfl⟩
 ·rw[h1];dsimp only;rcases Vh D (order.take (k4+4)) (p+14) (bb 19 0) with ⟨o',q,h2,h3⟩|⟨e,h2,h3⟩
  ·rw[h3] at h6;injection h6 with h6 h6';subst h6 h6';rw[h2];dsimp only;by_cases c:na o'
   ·rw[sJ _ (fun h=>h c)] at h7;subst h7;rw[b8 c,hR,iS];cases ku D o' (n5+257+(d5+1)) N q [] with
    |error e=>rfl
    |ok y=>rfl
   rw[oS _ c] at h7;subst h7;rw[b5 c,hR];rfl
  rw[h6] at h3;have h3:x6= .error e:=h3;subst h3;rw[PE] at h7;subst h7;rw[h2,hR];rfl
 have h3:=ES D e (order.take (k4+4)) (bb 19 0);rw[h6] at h3;have h3:x6= .error e:=h3;subst h3;rw[PE] at h7;subst h7;rw[h1,hR];rfl
end Go.Cl.Nf
namespace Go.Proofs.YtdfjfncifneocaaGreat
open Go.Cl Go.Cl.Rw Go.Cl.Sto Go.Cl.Fx Go.Cl.Nf
theorem BC {A:ao->Bool}{s:au}{z:ao}{v:bk}{n:ao}{l:a8 bk}(h:aU s z v n l)(hA:∀i,aI v=some i->A i=true){k:ao}(hk:k<n):LA.di A (some (aX z v k))=true:=by
 cases h with
 |nil=>omega
 |bare=>omega
 |of i off n c bl l hi hbb hz hl hc hlen eO ht=>simp only[aX,LA.di];exact hA i rfl
theorem Vj (s:au):bp aC s 134 19 [(0,.int .i64 16),(1,.int .i64 17),(2,.int .i64 18),(3,.int .i64 0),(4,.int .i64 8),(5,.int .i64 7),(6,.int .i64 9),(7,.int .i64 6),(8,.int .i64 10),(9,.int .i64 5),(10,.int .i64 11),(11,.int .i64 4),(12,.int .i64 12),(13,.int .i64 3),(14,.int .i64 13),(15,.int .i64 2),(16,.int .i64 14),(17,.int .i64 1),(18,.int .i64 15)]=a6 s (bm order) 19 1:=by
 unfold bp;rw[dS];simp only[aV,qf];rfl
theorem vH.turns {base jf jb:ao}{D P:a8 b4}{M:bw}{bv o y:bk}{t t' :au}{x:b7 ao ao}(h:vH base jf jb D P M bv o t x)(k:bG y t t')(hy:∀i,aI y=some i->base<=i/\i≠jf/\i≠jb/\aI o≠some i)(hb:base<=t.next):vH base jf jb D P M bv o t' x:=by
 have n1:aI y≠some jb:=fun e=>(hy _ e).2.2.1 rfl
 have n2:aI y≠some jf:=fun e=>(hy _ e).2.1 rfl
 cases x with
 |ok p=>exact⟨⟨h.1.b.turns k n1,h.1.f.turns k n2,h.1.low.stay (k.keeps (fun i e=>(hy i e).1) hb),h.1.own.turns k (fun i e e2=>(hy i e2).2.2.2 e),h.1.fresh,h.1.nb,h.1.nf,h.1.ne,h.1.lb,h.1.lf⟩,h.2⟩
 |error e=>
  obtain⟨jS,pv,o',m',h⟩:=h;exact⟨jS,pv,o',m',⟨h.b.turns k n1,h.f.turns k n2,h.pos,h.ne,h.lb,h.lf⟩⟩
theorem sK {jb:ao}{t t' :au}{y:bk}{n:ao}{L:a8 bk}(h:Own t 1 y n L)(k:Bx jb t t')(hy:aI y≠some jb):Own t' 1 y n L:=h.aK k.1 k.2 hy
theorem X8 {base jf jb:ao}{D P:a8 b4}{M:bw}{bv o:bk}{s s' :au}{v:bk}{T:a8 ao}{q:ao}(h:abv base jf jb D P M bv o s v s' (sym D T q)):v= .int .i64 ((xE (sym D T q)).1:ao)/\vH base jf jb D P M bv o s' (xE (sym D T q)).2/\lC jf jb o s o s' :=by
 cases hs:sym D T q with
 |error e=>rw[hs] at h;exact h
 |ok y=>
  obtain⟨x,r⟩:=y;rw[hs] at h;exact⟨h.1,⟨h.2.1,(sG hs).2.1⟩,h.2.2⟩
theorem HS {z lo hi i:ao}{v:bk}(h:aI (jC z v lo hi)=some i):aI v=some i:=by
 unfold jC at h;split at h
 ·exact h
 cases h
theorem pJ (L:a8 ao)(n:ao):(bm L).take n=bm (L.take n):=by simp[bm,List.map_take]
theorem pK (L:a8 ao)(n:ao):(bm L).drop n=bm (L.drop n):=by simp[bm,List.map_drop]
theorem vI (L K:a8 ao):bm L++bm K=bm (L++K):=by simp[bm]
def afk (base jf jb:ao)(D P:a8 b4)(M:bw)(bv o:bk)(s:au)(v:bk)(s' :au):b7 ao ((a8 ao×a8 ao)×ao)->Prop
 | .ok ((a,b),q)=>∃va vb,v= .tuple #[va,vb]/\Fl base s' jf jb D q P M bv o/\q<=8*D.length/\lC jf jb o s o s' /\vC jf jb o s' va a/\vC jf jb o s' vb b/\a.length<=300/\b.length<=300
 | .error e=>(∃va vb,v= .tuple #[va,vb])/\Bd base s' jf jb e/\lC jf jb o s o s'
theorem RK {lib:aD}(hl:lib.at 166=none)(Zr:lib.at 180=none)(hmy:lib.at 198=none)(tC:lib.at 195=none)(a7:lib.at 162=none)(jt:lib.at 167=none)
  (base:ao) (s:au) (jf jb:ao) (D P:a8 b4) (p m N:ao) (bv o:bk) (h:Fl base s jf jb D p P (m:ao) bv o) (BS:p<=8*D.length) (EE:D.length<=100000000) (hN:8*D.length+1<N) (hb:base<=s.next):
  Runs aC lib 166 [dF jf] s fun v s' =>afk base jf jb D P (m:ao) bv o s v s' (zj N D p):=by
 have r8:∀i,aI o=some i->i<s.next:=fun i hi=>h.own.ei i hi
 have hjf:=h.f.lt;have B3:=h.b.lt;have h0R:vH base jf jb D P (m:ao) bv o s (.ok p):=⟨h,BS⟩;refine Runs.enter 264 Tryz.func166 rfl hl rfl rfl ?_;intro f hn hf;have h0:f.get 0=dF jf:=hf 0;clear hf;simp(disch:=omega)only[aj,ak,ad,QM,WP,↓ab,hn,h0,bT,h0R.w0];refine(kF a7 jt base s jf jb D P (.ok p) 5 _ bv o h0R (by omega) (by omega)).mono ?_;rintro _ s1 ⟨rfl,PF,j1⟩;obtain⟨n5,en5⟩:∃n,n=gW D (.ok p) 5:=⟨_,rfl⟩
 obtain⟨x1,ex1⟩:∃x,x=jP D (.ok p) 5:=⟨_,rfl⟩
 have Sw:=lF D (.ok p) 5;rw[<-en5] at Sw|-
 rw[<-ex1] at PF;have e1:((n5:ao):bw)+257=((n5+257:ao):bw):=by omega
 simp(disch:=omega)only[aj,ak,QM,WP,↓ab,hn,h0,aB,e1,bT,cP,PF.w0,PF.l2];refine nOY (fun f' t=>f'.n=264/\f'.get 0=dF jf/\f'.get 4= .int .i64 ((n5+257:ao):bw)/\vH base jf jb D P (m:ao) bv o t (N1 x1 (29<n5))/\Bx jb s t) ?_ ?_
 ·intro Q' pR;cases x1 with
  |error e=>
   have c0:¬((qG (.error e):ao):bw)=0:=fun c=>by obtain⟨q,hq⟩:=PF.bad.1 (by omega);cases hq
   simp only[aj,ak,QM,WP,↓ab,undef,hn,a0 c0];exact pR _ _ ⟨by simp only[ag,hn],by simp only[aa,↓ab,WP,h0],by simp only[aa,↓ab,WP],PF,j1⟩
  |ok q=>
   have c0:((qG (.ok q):ao):bw)=0:=rfl;by_cases c1:29<n5
   ·have d1:((n5+257:ao):bw)>286:=by omega
    simp(disch:=omega)only[aj,ak,ad,QM,WP,↓ab,hn,h0,bz c0,bz d1,bT,PF.w0];refine(kG jt base s1 jf jb D P q 4 _ bv o PF (by decide)).mono ?_;rintro _ s2 ⟨Lm,j2⟩;simp(disch:=omega)only[aj,QM,↓ab,hn];exact pR _ _ ⟨by simp only[ag,hn],by simp only[aa,↓ab,WP,h0],by simp only[aa,↓ab,WP],by rw[oS _ c1];exact Lm,j1.trans j2⟩
   have d1:¬((n5+257:ao):bw)>286:=by omega
   simp(disch:=omega)only[aj,ak,QM,WP,↓ab,hn,bz c0,a0 d1];exact pR _ _ ⟨by simp only[ag,hn],by simp only[aa,↓ab,WP,h0],by simp only[aa,↓ab,WP],by rw[sJ _ c1];exact PF,j1⟩
 clear hn h0 f PF j1 e1;rintro f s1 ⟨hn,h0,h4,Lm,j1⟩;obtain⟨x2,ex2⟩:∃x,x=N1 x1 (29<n5):=⟨_,rfl⟩
 rw[<-ex2] at Lm;simp(disch:=omega)only[aj,ak,ad,QM,↓ab,hn,h0,bT,Lm.w0];refine(kF a7 jt base s1 jf jb D P x2 5 _ bv o Lm (by omega) (by omega)).mono ?_;rintro _ s2 ⟨rfl,Vk,j2⟩;obtain⟨d5,ed5⟩:∃n,n=gW D x2 5:=⟨_,rfl⟩
 obtain⟨x3,ex3⟩:∃x,x=jP D x2 5:=⟨_,rfl⟩
 have hd5:=lF D x2 5;rw[<-ed5] at hd5|-
 rw[<-ex3] at Vk;have e1:((d5:ao):bw)+1=((d5+1:ao):bw):=by omega
 simp(disch:=omega)only[aj,ak,QM,WP,↓ab,hn,h0,aB,e1,bT,cP,Vk.w0,Vk.l2];refine nOY (fun f' t=>f'.n=264/\f'.get 0=dF jf/\f'.get 4= .int .i64 ((n5+257:ao):bw)/\f'.get 5= .int .i64 ((d5+1:ao):bw)/\vH base jf jb D P (m:ao) bv o t (N1 x3 (29<d5))/\Bx jb s t) ?_ ?_
 ·intro Q' pR;have j2:=j1.trans j2;cases x3 with
  |error e=>
   have c0:¬((qG (.error e):ao):bw)=0:=fun c=>by obtain⟨q,hq⟩:=Vk.bad.1 (by omega);cases hq
   simp(disch:=omega)only[aj,ak,QM,WP,↓ab,undef,hn,a0 c0];exact pR _ _ ⟨by simp only[ag,hn],by simp only[aa,↓ab,WP,h0],by simp only[aa,↓ab,WP,h4],by simp only[aa,↓ab,WP],Vk,j2⟩
  |ok q=>
   have c0:((qG (.ok q):ao):bw)=0:=rfl;by_cases c1:29<d5
   ·have d1:((d5+1:ao):bw)>30:=by omega
    simp(disch:=omega)only[aj,ak,ad,QM,WP,↓ab,hn,h0,bz c0,bz d1,bT,Vk.w0];refine(kG jt base s2 jf jb D P q 4 _ bv o Vk (by decide)).mono ?_;rintro _ s3 ⟨Jg,j3⟩;simp(disch:=omega)only[aj,QM,↓ab,hn];exact pR _ _ ⟨by simp only[ag,hn],by simp only[aa,↓ab,WP,h0],by simp only[aa,↓ab,WP,h4],by simp only[aa,↓ab,WP],by rw[oS _ c1];exact Jg,j2.trans j3⟩
   have d1:¬((d5+1:ao):bw)>30:=by omega
   simp(disch:=omega)only[aj,ak,QM,WP,↓ab,hn,bz c0,a0 d1];exact pR _ _ ⟨by simp only[ag,hn],by simp only[aa,↓ab,WP,h0],by simp only[aa,↓ab,WP,h4],by simp only[aa,↓ab,WP],by rw[sJ _ c1];exact Vk,j2⟩
 clear hn h0 h4 f Lm Vk j1 j2 e1 s1 s2;rintro f s1 ⟨hn,h0,h4,h5,Jg,j1⟩;obtain⟨x4,ex4⟩:∃x,x=N1 x3 (29<d5):=⟨_,rfl⟩
 rw[<-ex4] at Jg;simp(disch:=omega)only[aj,ak,ad,QM,↓ab,hn,h0,bT,Jg.w0];refine(kF a7 jt base s1 jf jb D P x4 4 _ bv o Jg (by omega) (by omega)).mono ?_;rintro _ s2 ⟨rfl,h5R,j2⟩;have j2:=j1.trans j2;obtain⟨k4,ek4⟩:∃n,n=gW D x4 4:=⟨_,rfl⟩
 obtain⟨x5,ex5⟩:∃x,x=jP D x4 4:=⟨_,rfl⟩
 have hk4:=lF D x4 4;rw[<-ek4] at hk4|-
 rw[<-ex5] at h5R;have Zu:=head_eq en5 ex1 ex2 ed5 ex3 ex4 ek4 ex5;have e1:((k4:ao):bw)+4=((k4+4:ao):bw):=by omega
 simp(disch:=omega)only[aj,ae,QM,↓ab,hn,aB,e1,Vj];refine bc (by rfl) ?_;intro yo s3 uJ N2 k3;have abB:∀t:au,dq aC t 195 (.int .i64 19) (.int .i64 19)=a6 t (bb 19 (.int .i64 0)) 19 1:=fun t=>rm (n:=19) dE aV qf sy (by decide) (by decide)
 simp(disch:=omega)only[aj,QM,↓ab,hn,abB];refine bc (by rw[cD,cT]) ?_;intro yc s4 xF Jh k4';have n2:s2.next=s.next:=j2.1;have n3:=k3.next;have n4:=k4'.next;have pQ:lC jf jb o s o s4:=(j2.Zq.kept k3).kept k4';have SA:vH base jf jb D P (m:ao) bv o s4 x5:=(h5R.keeps k3 (by omega)).keeps k4' (by omega);have abD:=uJ.keeps k4';have ido:∀i,aI yo=some i->s.next<=i:=fun i hi=>by have:=N2 i hi;omega
 have Zv:∀i,aI yc=some i->s.next<=i:=fun i hi=>by have:=Jh i hi;omega
 have abE:∀i,aI yo=some i->aI yc≠some i:=fun i hi e=>by have:=uJ.ei i hi;have:=Jh i e;omega
 have apart:∀y,(∀i,aI y=some i->s.next<=i)->∀i,aI y=some i->base<=i/\i≠jf/\i≠jb/\aI o≠some i:=fun y hy i hi=>by
  have:=hy i hi;exact⟨by omega,by omega,by omega,fun e=>by have:=r8 i e;omega⟩
 rw[rG] at xF;obtain⟨R1,nH⟩:∃R1,R1=Gp D (order.take (k4+4)) x5 (bb 19 0):=⟨_,rfl⟩
 have ajW:order.length=19:=rfl;simp(disch:=omega)only[aj,QM,↓ab,hn];refine Comes.bD (fun z f t=>∃(i:ao) (x:b7 ao ao) (oL:a8 ao),z=k4+4-i/\i<=k4+4/\Gp D ((order.take (k4+4)).drop i) x oL=R1/\oL.length=19/\(∀j,oL.getD j 0<=7)/\vH base jf jb D P (m:ao) bv o t x/\Own t 1 yo 19 (bm order)/\Own t 1 yc 19 (bm oL)/\lC jf jb o s o t/\f.n=264/\f.get 0=dF jf/\f.get 4= .int .i64 ((n5+257:ao):bw)/\f.get 5= .int .i64 ((d5+1:ao):bw)/\f.get 6= .int .i64 ((k4+4:ao):bw)/\f.get 7=yo/\f.get 8=yc/\f.get 9= .int .i64 (i:ao))
  (fun z f t=>z= .exit 0/\∃(x:b7 ao ao) (oL:a8 ao),R1=(x,oL)/\oL.length=19/\(∀j,oL.getD j 0<=7)/\vH base jf jb D P (m:ao) bv o t x/\Own t 1 yc 19 (bm oL)/\lC jf jb o s o t/\f.n=264/\f.get 0=dF jf/\f.get 4= .int .i64 ((n5+257:ao):bw)/\f.get 5= .int .i64 ((d5+1:ao):bw)/\f.get 8=yc)
  ⟨0,x5,_,rfl,by omega,by rw[nH];rfl,by simp,fun j=>by rw[af,dk];split<;>simp,SA,abD,xF,pQ,by simp only[aa,ag,↓ab,WP,hn,h0,h4,h5,en];rfl⟩ ?_ ?_
 ·clear hn h0 h4 h5 f SA abD xF pQ;rintro Q hQ z f t ⟨i,x,oL,rfl,hi,iU,SB,rD,xG,uJ,xF,dg,hn,h0,h4,h5,h6,h7,h8,h9⟩;by_cases tm:i<k4+4;rotate_left
  ·obtain rfl:i=k4+4:=by omega
   have d1:¬((k4+4:ao):bw)<((k4+4:ao):bw):=by omega
   rw[List.drop_of_length_le (by rw[cL];omega),Gp] at iU;simp(disch:=omega)only[aj,QM,WP,↓ab,hn,h6,h9,a0 d1];exact hQ _ _ _ ⟨rfl,x,oL,iU.symm,SB,rD,xG,xF,dg,by simp only[aa,ag,↓ab,WP,hn,h0,h4,h5,h8,and_self]⟩
  have d1:(i:bw)<((k4+4:ao):bw):=by omega
  have X9:i<19:=by omega
  have jL:base<=t.next:=by have:=dg.next;omega
  have O7:(order.take (k4+4)).drop i=order.getD i 0::(order.take (k4+4)).drop (i+1):=by
   rw[List.drop_eq_getElem_cons (by rw[cL];omega)]
   congr 1
   rw[List.getElem_take,af,List.getElem?_eq_getElem (by omega)];rfl
  rw[O7,Gp] at iU;have PG:order.getD i 0<19:=by
   have key:∀i,i<19->order.getD i 0<19:=by decide
   exact key i X9
  simp(disch:=omega)only[aj,QM,WP,↓ab,hn,h6,h9,bz d1];obtain⟨A,hA⟩:∃A:ao->Bool,A=fun j=>decide (j<t.next/\j≠jb):=⟨_,rfl⟩
  have gu:∀j,A j=true->j<t.next:=by
   intro j h;rw[hA] at h;exact(dA h).1
  have oO:∀j,j<t.next->j≠jb->A j=true:=fun j h1 h2=>by rw[hA];exact cv ⟨h1,h2⟩
  have hAb:A jb=false:=by rw[hA];exact ck (fun h=>h.2 rfl)
  have js:=aw.spare t 0;have Fo:(spare t 0).next=t.next+0:=bu _ _;have Ya:=xG.keeps js jL;have hyq:=uJ.keeps js;have abF:∀j,aI yo=some j->A j=true:=fun j hj=>oO j (uJ.ei j hj) (by have:=ido j hj;omega)
  have y9:∀k,LA.di A (some (.pointer (some ⟨jf,k,some 4⟩)))=true:=fun k=>LA.bN (A:=A) (i:=jf) (oO _ (by have:=dg.next;omega) h.ne.symm)
  have lE:=BC uJ.aL abF X9;have jK:=hyq.aL.indexAddr (P:=aC) (k:= .i64) (x:=(i:bw)) dS aV (by omega) (by omega);have k1:=hyq.aL.cu (P:=aC) xm X9;rw[fm X9] at k1;rw[cc] at jK;have xJ:=xF.aL.indexAddr (P:=aC) (k:= .i64) (x:=((order.getD i 0:ao):bw)) dE aV (by omega) (by omega);rw[cc] at xJ;refine LB.cN.dx A gu 1 0 (by kernel_rfl) (by kernel_rfl) ?_;simp(disch:=omega)only[aj,ak,bg,bn,dI,ad,QM,WP,↓ab,hn,h0,h7,h8,h9,bT,Ya.w0,y9,lE,uJ.self,xF.self,jK,k1,xJ];refine(kF a7 jt base (spare t 0) jf jb D P x 3 _ bv o Ya (by omega) (by omega)).mono ?_;rintro _ t2 ⟨rfl,kA,j2⟩;refine⟨fun _=>⟨by rw[j2.1];exact c8 _,fun q hq=>j2.2 q (fun e=>by rw[e,hAb] at hq;cases hq)⟩,?_⟩;have Gq:Own t2 1 yc 19 (bm oL):=sK (xF.keeps js) j2 (fun e=>by have:=Zv _ e;omega);have Yb:Own t2 1 yo 19 (bm order):=sK (uJ.keeps js) j2 (fun e=>by have:=ido _ e;omega)
  try simp(disch:=omega)only[aj,ak,bg,bn,dI,Nat.add_one_sub_one,eg,oneOf,ad,ae,ai,QM,Nat.reduceLeDiff,WP,dc,↓ab,hn,h0,h4,h5,h6,h7,h8,h9,xJ,xF.self,bH,bZ]
  refine LB.Av aV Gq PG rfl (fun h=>absurd rfl h) (fun q hq=>by have:=gu q hq;have:=j2.1;omega) ?_;intro t3 Ji pF;rw[rF] at Ji;have abG:Own t3 1 yo 19 (bm order):=Yb.turns pF abE;have hx3:=kA.turns pF (apart yc Zv) (by rw[j2.1];omega);simp(disch:=omega)only[aj,bn,eg,QM,WP,↓ab,aj,QM,WP,↓ab,hn,h9,aB];have hv7:=lF D x 3;exact ar (k4+4-(i+1)) (by omega) ⟨i+1,jP D x 3,oL.set (order.getD i 0) (gW D x 3),rfl,by omega,iU,by simpa using SB,fun j=>by
   rw[af,List.getElem?_set];split
   ·split
    ·show gW D x 3<=7;omega
    exact ds _
   rw[<-af];exact rD j,hx3,abG,Ji,((dg.kept js).trans j2.Zq).EO pF Zv,by simp only[aa,ag,↓ab,WP,hn,h0,h4,h5,h6,h7,h8,en];rfl⟩
 clear hn h0 h4 h5 f SA abD xF pQ;rintro z f t ⟨rfl,x6,oL,hRx,SB,rD,SA,xF,dg,hn,h0,h4,h5,h8⟩;have mA:sI oL:=fun j=>cd (rD j) (by omega)
 have jL:base<=t.next:=by have:=dg.next;omega
 have m8:aU t 1 yc oL.length (bm oL):=by rw[SB];exact xF.aL
 simp(disch:=omega)only[aj,ak,QM,↓ab,hn,h0,bT,cP,SA.w0,SA.l2];refine nOY (fun f' t' =>f'.n=264/\f'.get 0=dF jf/\f'.get 4= .int .i64 ((n5+257:ao):bw)/\f'.get 5= .int .i64 ((d5+1:ao):bw)/\f'.get 8=yc/\vH base jf jb D P (m:ao) bv o t' (N1 x6 (¬na oL))/\Bx jb t t') ?_ ?_
 ·intro Q' pR;cases x6 with
  |error e=>
   have c0:¬((qG (.error e):ao):bw)=0:=fun c=>by obtain⟨q,hq⟩:=SA.bad.1 (by omega);cases hq
   simp(disch:=omega)only[aj,ak,QM,WP,↓ab,undef,hn,a0 c0];exact pR _ _ ⟨by simp only[ag,hn],by simp only[aa,↓ab,WP,h0],by simp only[aa,↓ab,WP,h4],by simp only[aa,↓ab,WP,h5],by simp only[aa,↓ab,WP,h8],SA,Bx.refl _ _⟩
  |ok q=>
   have c0:((qG (.ok q):ao):bw)=0:=rfl;simp(disch:=omega)only[aj,ak,ad,QM,WP,↓ab,hn,h8,bz c0];refine(Jd hmy t yc oL m8 (by omega) mA).mono ?_;rintro _ t2 ⟨rfl,dK⟩;subst dK;by_cases c1:na oL
   ·simp(disch:=omega)only[aj,ak,QM,WP,↓ab,hn,bz c1];exact pR _ _ ⟨by simp only[ag,hn],by simp only[aa,↓ab,WP,h0],by simp only[aa,↓ab,WP,h4],by simp only[aa,↓ab,WP,h5],by simp only[aa,↓ab,WP,h8],by rw[sJ _ (fun h=>h c1)];exact SA,Bx.refl _ _⟩
   simp(disch:=omega)only[aj,ak,ad,QM,WP,↓ab,hn,h0,a0 c1,bT,SA.w0];refine(kG jt base _ jf jb D P q 4 _ bv o SA (by decide)).mono ?_;rintro _ s3 ⟨h7R,j3⟩;simp(disch:=omega)only[aj,QM,↓ab,hn];exact pR _ _ ⟨by simp only[ag,hn],by simp only[aa,↓ab,WP,h0],by simp only[aa,↓ab,WP,h4],by simp only[aa,↓ab,WP,h5],by simp only[aa,↓ab,WP,h8],by rw[oS _ c1];exact h7R,j3⟩
 clear hn h0 h4 h5 h8 f;rintro f t1 ⟨hn,h0,h4,h5,h8,h7R,j7⟩;have abI:Own t1 1 yc 19 (bm oL):=sK xF j7 (fun e=>by have:=Zv _ e;omega);have B0:=dg.trans j7.Zq;have Zw:aU t1 1 yc oL.length (bm oL):=by rw[SB];exact abI.aL
 obtain⟨x7,ex7⟩:∃x,x=N1 x6 (¬na oL):=⟨_,rfl⟩
 rw[<-ex7] at h7R;clear SA xF m8 dg j7;simp(disch:=omega)only[aj,ak,ad,QM,↓ab,hn,h8];refine(Aj Zr t1 yc oL Zw (by omega)).mono ?_;rintro tc t2 ⟨Jz,-,ajY,k2⟩;have n2:=k2.next;have b1:base<=t1.next:=by have:=B0.next;omega
 have h7R:=h7R.keeps k2 b1;have Gq:=abI.keeps k2;have zb:=B0.kept k2;have Yc:∀i,aI tc=some i->s.next<=i:=fun i hi=>by have:=ajY i hi;have:=B0.next;omega
 have b2:s.next<=t2.next:=zb.next;obtain⟨M,hM⟩:∃M,M=n5+257+(d5+1):=⟨_,rfl⟩
 have p5:(2:ao)^5=32:=by decide
 have eM:((n5+257:ao):bw)+((d5+1:ao):bw)=((M:ao):bw):=by omega
 obtain⟨R2,iq⟩:∃R2,R2=qm x7 fun q=>ku D oL M N q []:=⟨_,rfl⟩
 have afr:=abA (N:=N) (R2:=R2) Zu (by rw[<-nH];exact hRx) ex7 (by rw[iq,hM]);rw[afr];clear afr Zw abI B0 Zu nH hRx;simp(disch:=omega)only[aj,ak,QM,↓ab,hn];refine Comes.bD (fun z f t=>∃(l:a8 ao) (yl:bk),Own t 1 yl l.length (bm l)/\aM t2.next yl/\l.length<=M/\sI l/\Own t 1 yc 19 (bm oL)/\Own t 1 tc oL.length (bm (fQ oL))/\lC jf jb o s o t/\t2.next<=t.next/\f.n=264/\f.get 0=dF jf/\f.get 4= .int .i64 ((n5+257:ao):bw)/\f.get 5= .int .i64 ((d5+1:ao):bw)/\f.get 8=yc/\f.get 10=tc/\f.get 11=yl/\((∃q,vH base jf jb D P (m:ao) bv o t (.ok q)/\ku D oL M z q l=R2/\8*D.length+1<z+q)\/(z=0/\∃e,vH base jf jb D P (m:ao) bv o t (.error e)/\R2= .error e)))
  (fun z f t=>z= .exit 2/\∃(l:a8 ao) (yl:bk),Own t 1 yl l.length (bm l)/\aM t2.next yl/\sI l/\lC jf jb o s o t/\t2.next<=t.next/\f.n=264/\f.get 0=dF jf/\f.get 4= .int .i64 ((n5+257:ao):bw)/\f.get 5= .int .i64 ((d5+1:ao):bw)/\f.get 11=yl/\((∃q,vH base jf jb D P (m:ao) bv o t (.ok q)/\R2= .ok (l,q)/\l.length=M)\/(∃e,vH base jf jb D P (m:ao) bv o t (.error e)/\R2= .error e)))
  (k:=match x7 with| .ok _=>N| .error _=>0) ⟨[],_,.nil,aM.nil _,by simp,fun i=>by simp,Gq,Jz,zb,c8 _,by simp only[ag,hn],by simp only[aa,↓ab,WP,h0],by simp only[aa,↓ab,WP,h4],by simp only[aa,↓ab,WP,h5],by simp only[aa,↓ab,WP,h8],by simp only[aa,↓ab,WP],by simp only[aa,↓ab],by
   cases x7 with
   |ok q=>exact .inl ⟨q,h7R,iq.symm,bq hN (Nat.le_add_right _ _)⟩
   |error e=>exact .inr ⟨rfl,e,h7R,iq⟩⟩ ?_ ?_
 rotate_left
 ·clear hn h0 h4 h5 h8 f;rintro z f t ⟨rfl,l,yl,tD,Jj,rM,dg,xL,hn,h0,h4,h5,eC,(⟨q,xG,iq,hlM⟩|⟨e,xG,iq⟩)⟩;rotate_left
  ·have c0:¬((qG (.error e):ao):bw)=0:=fun c=>by obtain⟨q,hq⟩:=xG.bad.1 (by omega);cases hq
   simp(disch:=omega)only[aj,ak,al,oneOf,QM,WP,↓ab,hn,h0,bT,cP,xG.w0,xG.l2,a0 c0,cp];rw[iq];exact⟨⟨_,_,rfl⟩,xG,dg⟩
  have c0:((qG (.ok q):ao):bw)=0:=rfl;obtain⟨R3,uU⟩:∃R3:b7 ao ((a8 ao×a8 ao)×ao),R3=if na (l.take (n5+257))/\na (l.drop (n5+257))/\l.getD 256 0≠0 then .ok ((l.take (n5+257),l.drop (n5+257)),q) else .error 4:=⟨_,rfl⟩
  rw[iq,iS];dsimp only;rw[<-uU];have q1:=tD.aL.ra (P:=aC) (k:= .i64) (y:=((n5+257:ao):bw)) dE aV (by omega) (by omega);have q2:=tD.aL.qZ (P:=aC) (k:= .i64) (x:=((n5+257:ao):bw)) dE aV (by omega) (by omega);rw[cc] at q1 q2;have sa:=tD.aL.cut (lo:=0) (hi:=n5+257) (by omega) (by omega);have sb:=tD.aL.cut (lo:=n5+257) (hi:=l.length) (by omega) (c8 _);rw[cT,cT,pK,pJ,List.drop_zero,Nat.sub_zero] at sa;rw[cT,cT,pK,pJ,List.take_of_length_le (by rw[dP];omega)] at sb;have la:(l.take (n5+257)).length=n5+257:=by rw[cL];omega
  have lb:(l.drop (n5+257)).length=l.length-(n5+257):=by rw[dP]
  rw[<-la] at sa;rw[<-lb] at sb;rw[la] at sa;have sa' :aU t 1 (jC 1 yl 0 (n5+257)) (l.take (n5+257)).length (bm (l.take (n5+257))):=by rw[la];exact sa
  have ids:∀lo hi i,aI (jC 1 yl lo hi)=some i->aI yl=some i:=fun lo hi i h=>HS h
  have RL:∀lo hi i,aI (jC 1 yl lo hi)=some i->i<t.next/\i≠jf/\i≠jb/\aI o≠some i:=fun lo hi i h=>by
   have h1:=ids lo hi i h;have h2:=tD.ei i h1;have h3:=Jj i h1;exact⟨h2,by omega,by omega,fun e=>by have:=r8 i e;omega⟩
  have afs:∀lo hi,bI (jC 1 yl lo hi) (jC 1 yl lo hi)=true:=fun lo hi=>by simp[wX]
  have ta:vC jf jb o t (jC 1 yl 0 (n5+257)) (l.take (n5+257)):=⟨sa',RL _ _⟩;have tb:vC jf jb o t (jC 1 yl (n5+257) l.length) (l.drop (n5+257)):=⟨sb,RL _ _⟩;have Vl:256<(l.take (n5+257)).length:=by omega
  have aj0:(l.take (n5+257)).getD 256 0=l.getD 256 0:=by rw[af,c9 (by omega),af]
  have ia:=sa'.indexAddr (P:=aC) (k:= .i64) (x:=(256:bw)) dE aV (by omega) (by omega);rw[show(256:bw).toNat=256 from rfl] at ia;have ka:=sa'.cu (P:=aC) xm Vl;rw[fm Vl,aj0] at ka;have N3:∀(t' :au),vH base jf jb D P (m:ao) bv o t' (.error 4)->Bx jb t t' ->(¬(na (l.take (n5+257))/\na (l.drop (n5+257))/\l.getD 256 0≠0))->afk base jf jb D P (m:ao) bv o s (.tuple #[jC 1 yl 0 (n5+257),jC 1 yl (n5+257) l.length]) t' R3:=fun t' h1 h2 h3=>by
   rw[uU,b5 h3];exact⟨⟨_,_,rfl⟩,h1,dg.trans h2.Zq⟩
  simp(disch:=omega)only[aj,ak,ad,ai,QM,WP,↓ab,hn,h0,h4,eC,bT,cP,xG.w0,xG.l2,c0,q1,q2,tD.self,afs];refine(Jd hmy t _ (l.take (n5+257)) sa' (by omega) (HQ rM _)).mono ?_;rintro _ t3 ⟨rfl,jE⟩;subst jE;by_cases ca:na (l.take (n5+257));rotate_left
  ·simp(disch:=omega)only[aj,ak,ad,QM,WP,↓ab,undef,hn,h0,a0 ca,bT,xG.w0];refine(kG jt base _ jf jb D P q 4 _ bv o xG (by decide)).mono ?_;rintro _ t4 ⟨Jg,j4⟩;simp(disch:=omega)only[aj,al,oneOf,QM,WP,↓ab,hn,cp];exact N3 t4 Jg j4 (fun h=>ca h.1)
  simp(disch:=omega)only[aj,ak,ad,QM,WP,↓ab,hn,bz ca];refine(Jd hmy t3 _ (l.drop (n5+257)) sb (by omega) (HR rM _)).mono ?_;rintro _ t3 ⟨rfl,jE⟩;subst jE;by_cases cb:na (l.drop (n5+257));rotate_left
  ·simp(disch:=omega)only[aj,ak,ad,QM,WP,↓ab,undef,hn,h0,a0 cb,bT,xG.w0];refine(kG jt base _ jf jb D P q 4 _ bv o xG (by decide)).mono ?_;rintro _ t4 ⟨Jg,j4⟩;simp(disch:=omega)only[aj,al,oneOf,QM,WP,↓ab,hn,cp];exact N3 t4 Jg j4 (fun h=>cb h.2.1)
  by_cases cz:l.getD 256 0=0
  ·have d1:((l.getD 256 0:ao):bw)=0:=by omega
   simp(disch:=omega)only[aj,ak,ad,QM,WP,↓ab,hn,h0,bz cb,ia,ka,bz d1,bT,xG.w0];refine(kG jt base _ jf jb D P q 4 _ bv o xG (by decide)).mono ?_;rintro _ t4 ⟨Jg,j4⟩;simp(disch:=omega)only[aj,al,oneOf,QM,WP,↓ab,hn,cp];exact N3 t4 Jg j4 (fun h=>h.2.2 cz)
  have d1:¬((l.getD 256 0:ao):bw)=0:=by omega
  simp(disch:=omega)only[aj,ak,al,oneOf,QM,WP,↓ab,hn,bz cb,ia,ka,a0 d1,cp];rw[uU,b8 ⟨ca,cb,cz⟩];exact⟨_,_,rfl,xG.1,xG.2,dg,ta,tb,by omega,by omega⟩
 clear hn h0 h4 h5 h8 f;rintro Q hQ z f t ⟨l,yl,tD,Jj,hlM,rM,xF,Jz,dg,xL,hn,h0,h4,h5,h8,cJ,eC,(⟨q,xG,hz,hzq⟩|⟨rfl,e,xG,he⟩)⟩;rotate_left
 ·have c0:¬((qG (.error e):ao):bw)=0:=fun c=>by obtain⟨q,hq⟩:=xG.bad.1 (by omega);cases hq
  by_cases c1:((l.length:ao):bw)<((M:ao):bw)
  ·simp(disch:=omega)only[aj,ak,ad,QM,WP,↓ab,hn,h0,h4,h5,eC,tD.aL.aQ dE,aB,eM,bz c1,bT,cP,xG.w0,xG.l2,a0 c0];exact hQ _ _ _ ⟨rfl,l,yl,tD,Jj,rM,dg,xL,by simp only[ag,hn],by simp only[aa,↓ab,WP,h0],by simp only[aa,↓ab,WP,h4],by simp only[aa,↓ab,WP,h5],by simp only[aa,↓ab,WP,eC],.inr ⟨e,xG,he⟩⟩
  simp(disch:=omega)only[aj,ak,ad,QM,WP,↓ab,undef,hn,h4,h5,eC,tD.aL.aQ dE,aB,eM,a0 c1];exact hQ _ _ _ ⟨rfl,l,yl,tD,Jj,rM,dg,xL,by simp only[ag,hn],by simp only[aa,↓ab,WP,h0],by simp only[aa,↓ab,WP,h4],by simp only[aa,↓ab,WP,h5],by simp only[aa,↓ab,WP,eC],.inr ⟨e,xG,he⟩⟩
 have hqD:q<=8*D.length:=xG.2;obtain⟨k,rfl⟩:∃k,z=k+1:=⟨z-1,by omega⟩
 have c0:((qG (.ok q):ao):bw)=0:=rfl;by_cases clM:M<=l.length
 ·have c1:¬((l.length:ao):bw)<((M:ao):bw):=by omega
  rw[ku,b8 clM] at hz;simp(disch:=omega)only[aj,ak,ad,QM,WP,↓ab,undef,hn,h4,h5,eC,tD.aL.aQ dE,aB,eM,a0 c1];exact hQ _ _ _ ⟨rfl,l,yl,tD,Jj,rM,dg,xL,by simp only[ag,hn],by simp only[aa,↓ab,WP,h0],by simp only[aa,↓ab,WP,h4],by simp only[aa,↓ab,WP,h5],by simp only[aa,↓ab,WP,eC],.inl ⟨q,xG,hz.symm,by omega⟩⟩
 have c1:((l.length:ao):bw)<((M:ao):bw):=by omega
 have bt:base<=t.next:=by omega
 have RL:∀(y:bk) (L:a8 ao),Own t 1 y L.length (bm L)->(∀i,aI y=some i->s.next<=i)->vC jf jb o t y L:=fun y L h1 h2=>⟨h1.aL,fun i hi=>⟨h1.ei i hi,(apart y h2 i hi).2⟩⟩
 have idl:∀i,aI yl=some i->s.next<=i:=fun i hi=>by have:=Jj i hi;omega
 simp(disch:=omega)only[aj,ak,ad,QM,WP,↓ab,hn,h0,h4,h5,h8,cJ,eC,tD.aL.aQ dE,aB,eM,bz c1,bT,cP,xG.w0,xG.l2,c0];have tyc:=RL yc oL (by rw[SB];exact xF) Zv;have ttc:vC jf jb o t tc (fQ oL):=RL tc (fQ oL) (by rw[sH];exact Jz) Yc;refine(EM tC a7 jt base t jf jb D P q _ bv o xG.1 hqD (by omega) yc tc oL (fQ oL) tyc ttc (At oL) (by omega)).mono ?_;intro v t3 hS;obtain⟨rfl,kU,jT⟩:=X8 hS;clear hS;have qI:∀(y:bk) (L:a8 ao) (n:ao),Own t 1 y n (bm L)->(∀i,aI y=some i->s.next<=i)->Own t3 1 y n (bm L):=fun y L n h1 h2=>(Ja.own (fun i hi=>(apart y h2 i hi).2) h1 jT).1
 have Jk:=qI yl l _ tD idl;have Ji:=qI yc oL _ xF Zv;have aft:=qI tc (fQ oL) _ Jz Yc;have pF:=dg.trans jT;have n3' :=jT.next;have abJ:(xE (sym D oL q)).1<=18/\∀r,(xE (sym D oL q)).2= .ok r->q<r:=by
  cases hs:sym D oL q with
  |error e=>exact⟨by simp[xE],fun r h=>by cases h⟩
  |ok y=>
   have:=sG hs;exact⟨by simp only[xE];omega,fun r h=>by simp only[xE] at h;injection h with h;omega⟩
 obtain⟨a,ea⟩:∃a,a=lY D (xE (sym D oL q)).1 (xE (sym D oL q)).2 l:=⟨_,rfl⟩
 obtain⟨x8,Zx⟩:∃x,x=N1 a.2.2 (M<l.length+a.2.1):=⟨_,rfl⟩
 have pI:=RI (k:=k) clM ea Zx;rw[hz] at pI;have PH:=Ll (D:=D) (x:=(xE (sym D oL q)).2) abJ.1 rM;rw[<-ea] at PH;have PI:∀r,x8= .ok r->q<r/\l.length+a.2.1<=M/\a.1<=15:=fun r h=>by
  rw[Zx] at h;obtain⟨h1,h2⟩:=abz h;have h3:=PH.2.1 r h1;rw[ea] at h1;cases hx:(xE (sym D oL q)).2 with
  |error e=>rw[hx] at h1;simp[lY] at h1
  |ok q1=>
   rw[hx] at h1;have:=RJ h1;have:=abJ.2 q1 hx;exact⟨by omega,by omega,h3⟩
 generalize hsv:(xE (sym D oL q)).1=sv at*;generalize V4:(xE (sym D oL q)).2=x1 at*;have afu:a.2.1<=200:=PH.1;clear PH hsv V4 abJ xG tD xF Jz dg jT tyc ttc RL qI hz;simp(disch:=omega)only[aj,ak,QM,WP,↓ab,hn,h0,bT,cP,kU.w0,kU.l2];refine EP (fun f' t' =>f'.n=264/\f'.get 0=dF jf/\f'.get 4= .int .i64 ((n5+257:ao):bw)/\f'.get 5= .int .i64 ((d5+1:ao):bw)/\f'.get 8=yc/\f'.get 10=tc/\f'.get 11=yl/\f'.get 13= .int .i64 (a.1:ao)/\f'.get 14= .int .i64 (a.2.1:ao)/\vH base jf jb D P (m:ao) bv o t' a.2.2/\Bx jb t3 t') ?_ ?_
 ·intro Q' pR;cases x1 with
  |error e=>
   have c0:¬((qG (.error e):ao):bw)=0:=fun c=>by obtain⟨q,hq⟩:=kU.bad.1 (by omega);cases hq
   have ea:a=(sv,1,.error e):=ea;simp(disch:=omega)only[aj,ak,a0 c0];rw[ea] at pR;exact pR _ _ ⟨by simp only[ag,hn],by simp only[aa,↓ab,WP,h0],by simp only[aa,↓ab,WP,h4],by simp only[aa,↓ab,WP,h5],by simp only[aa,↓ab,WP,h8],by simp only[aa,↓ab,WP,cJ],by simp only[aa,↓ab,WP,eC],by simp only[aa,↓ab,WP],by simp only[aa,↓ab,WP];rfl,kU,Bx.refl _ _⟩
  |ok q1=>
  have c0:((qG (.ok q1):ao):bw)=0:=rfl;unfold lY at ea;dsimp only at ea;by_cases Zy:sv=16
  ·have d16:((sv:ao):bw)=16:=by omega
   rw[b8 Zy] at ea;by_cases cl0:l.length=0
   ·have d0:((l.length:ao):bw)=0:=by omega
    rw[b8 cl0] at ea;simp(disch:=omega)only[aj,ak,ad,QM,WP,↓ab,hn,h0,eC,c0,bz d16,Jk.aL.aQ dE,bz d0,bT,kU.w0];refine(kG jt base _ jf jb D P q1 4 _ bv o kU (by decide)).mono ?_;rintro _ t4 ⟨Jg,j4⟩;simp(disch:=omega)only[aj,QM,↓ab,hn];rw[ea] at pR;exact pR _ _ ⟨by simp only[ag,hn],by simp only[aa,↓ab,WP,h0],by simp only[aa,↓ab,WP,h4],by simp only[aa,↓ab,WP,h5],by simp only[aa,↓ab,WP,h8],by simp only[aa,↓ab,WP,cJ],by simp only[aa,↓ab,WP,eC],by simp only[aa,↓ab,WP],by simp only[aa,↓ab,WP];rfl,Jg,j4⟩
   have d0:¬((l.length:ao):bw)=0:=by omega
   rw[b5 cl0] at ea;obtain⟨A,hA⟩:∃A:ao->Bool,A=fun j=>decide (j<t3.next/\j≠jb):=⟨_,rfl⟩
   have gu:∀j,A j=true->j<t3.next:=by
    intro j h;rw[hA] at h;exact(dA h).1
   have oO:∀j,j<t3.next->j≠jb->A j=true:=fun j h1 h2=>by rw[hA];exact cv ⟨h1,h2⟩
   have hAb:A jb=false:=by rw[hA];exact ck (fun h=>h.2 rfl)
   have js:=aw.spare t3 0;have Fo:(spare t3 0).next=t3.next+0:=bu _ _;have Ya:=kU.keeps js (by omega);have hyq:=Jk.keeps js;have abF:∀j,aI yl=some j->A j=true:=fun j hj=>oO j (Jk.ei j hj) (by have:=idl j hj;omega)
   have y9:∀k,LA.di A (some (.pointer (some ⟨jf,k,some 4⟩)))=true:=fun k=>LA.bN (A:=A) (i:=jf) (oO _ (by omega) h.ne.symm)
   have e1:((l.length:ao):bw)-1=((l.length-1:ao):bw):=by omega
   have lE:=BC Jk.aL abF (k:=l.length-1) (by omega);have jK:=hyq.aL.indexAddr (P:=aC) (k:= .i64) (x:=((l.length-1:ao):bw)) dE aV (by omega) (by omega);have k1:=hyq.aL.cu (P:=aC) xm (k:=l.length-1) (by omega);rw[fm (by omega)] at k1;rw[cc] at jK;simp(disch:=omega)only[aj,ak,ad,QM,WP,↓ab,hn,eC,c0,bz d16,Jk.aL.aQ dE,a0 d0];refine LB.cN.dx A gu 1 0 (by kernel_rfl) (by kernel_rfl) ?_;have lL:=LA.rB Jk.aL;simp(disch:=omega)only[aj,ak,bg,bn,dI,ad,QM,WP,↓ab,hn,h0,eC,bT,Ya.w0,y9,lE,lL,Jk.self,hyq.aL.aQ dE,aB,e1,jK,k1];refine(kF a7 jt base (spare t3 0) jf jb D P (.ok q1) 2 _ bv o Ya (by omega) (by omega)).mono ?_;rintro _ t4 ⟨rfl,Jg,j4⟩;have Hh:=lF D (.ok q1) 2;have e3:(3:bw)+((gW D (.ok q1) 2:ao):bw)=((3+gW D (.ok q1) 2:ao):bw):=by omega
   refine⟨fun _=>⟨by rw[j4.1];exact c8 _,fun q hq=>j4.2 q (fun e=>by rw[e,hAb] at hq;cases hq)⟩,?_⟩
   try simp(disch:=omega)only[aj,bg,bn,QM,WP,↓ab,aj,QM,WP,↓ab,hn,aB,e3]
   rw[ea] at pR;exact pR _ _ ⟨by simp only[ag,hn],by simp only[aa,↓ab,WP,h0],by simp only[aa,↓ab,WP,h4],by simp only[aa,↓ab,WP,h5],by simp only[aa,↓ab,WP,h8],by simp only[aa,↓ab,WP,cJ],by simp only[aa,↓ab,WP,eC],by simp only[aa,↓ab,WP],by simp only[aa,↓ab],Jg,⟨by rw[j4.1];exact Fo,fun i hi=>by rw[j4.2 i hi];rfl⟩⟩
  have d16:¬((sv:ao):bw)=16:=by omega
  rw[b5 Zy] at ea;by_cases c17:sv=17
  ·have d17:((sv:ao):bw)=17:=by omega
   rw[b8 c17] at ea;simp(disch:=omega)only[aj,ak,ad,QM,WP,↓ab,undef,hn,h0,c0,a0 d16,bz d17,bT,kU.w0];refine(kF a7 jt base _ jf jb D P (.ok q1) 3 _ bv o kU (by omega) (by omega)).mono ?_;rintro _ t4 ⟨rfl,Jg,j4⟩;have Hh:=lF D (.ok q1) 3;have e3:(3:bw)+((gW D (.ok q1) 3:ao):bw)=((3+gW D (.ok q1) 3:ao):bw):=by omega
   simp(disch:=omega)only[aj,QM,WP,↓ab,hn,aB,e3];rw[ea] at pR;exact pR _ _ ⟨by simp only[ag,hn],by simp only[aa,↓ab,WP,h0],by simp only[aa,↓ab,WP,h4],by simp only[aa,↓ab,WP,h5],by simp only[aa,↓ab,WP,h8],by simp only[aa,↓ab,WP,cJ],by simp only[aa,↓ab,WP,eC],by simp only[aa,↓ab,WP];rfl,by simp only[aa,↓ab],Jg,j4⟩
  have d17:¬((sv:ao):bw)=17:=by omega
  rw[b5 c17] at ea;by_cases c18:sv=18
  ·have d18:((sv:ao):bw)=18:=by omega
   rw[b8 c18] at ea;simp(disch:=omega)only[aj,ak,ad,QM,WP,↓ab,undef,hn,h0,c0,a0 d16,a0 d17,bz d18,bT,kU.w0];refine(kF a7 jt base _ jf jb D P (.ok q1) 7 _ bv o kU (by omega) (by omega)).mono ?_;rintro _ t4 ⟨rfl,Jg,j4⟩;have Hh:=lF D (.ok q1) 7;have e3:(11:bw)+((gW D (.ok q1) 7:ao):bw)=((11+gW D (.ok q1) 7:ao):bw):=by omega
   simp(disch:=omega)only[aj,QM,WP,↓ab,hn,aB,e3];rw[ea] at pR;exact pR _ _ ⟨by simp only[ag,hn],by simp only[aa,↓ab,WP,h0],by simp only[aa,↓ab,WP,h4],by simp only[aa,↓ab,WP,h5],by simp only[aa,↓ab,WP,h8],by simp only[aa,↓ab,WP,cJ],by simp only[aa,↓ab,WP,eC],by simp only[aa,↓ab,WP];rfl,by simp only[aa,↓ab],Jg,j4⟩
  have d18:¬((sv:ao):bw)=18:=by omega
  rw[b5 c18] at ea;simp(disch:=omega)only[aj,ak,QM,WP,↓ab,undef,hn,c0,a0 d16,a0 d17,a0 d18];rw[ea] at pR;exact pR _ _ ⟨by simp only[ag,hn],by simp only[aa,↓ab,WP,h0],by simp only[aa,↓ab,WP,h4],by simp only[aa,↓ab,WP,h5],by simp only[aa,↓ab,WP,h8],by simp only[aa,↓ab,WP,cJ],by simp only[aa,↓ab,WP,eC],by simp only[aa,↓ab,WP],by simp only[aa,↓ab,WP];rfl,kU,Bx.refl _ _⟩
 clear hn h0 h4 h5 h8 cJ eC f;rintro f t4 ⟨hn,h0,h4,h5,h8,cJ,eC,mY,pO,kA,j4⟩;have Vm:Own t4 1 yl l.length (bm l):=sK Jk j4 (fun e=>by have:=idl _ e;omega);have afx:Own t4 1 yc 19 (bm oL):=sK Ji j4 (fun e=>by have:=Zv _ e;omega);have afy:Own t4 1 tc oL.length (bm (fQ oL)):=sK aft j4 (fun e=>by have:=Yc _ e;omega);have Rn:=pF.trans j4.Zq;have n4' :t4.next=t3.next:=j4.1;obtain⟨av,hav⟩:∃av,av=a.1:=⟨_,rfl⟩
 obtain⟨an,Px⟩:∃an,an=a.2.1:=⟨_,rfl⟩
 obtain⟨ax,hax⟩:∃ax,ax=a.2.2:=⟨_,rfl⟩
 rw[<-hav] at mY PI pI;rw[<-Px] at pO PI Zx pI afu;rw[<-hax] at kA Zx;clear Jk Ji aft pF j4 ea hav Px hax;simp(disch:=omega)only[aj,ak,QM,↓ab,hn,h0,bT,cP,kA.w0,kA.l2];refine nOY (fun f' t' =>f'.n=264/\f'.get 0=dF jf/\f'.get 4= .int .i64 ((n5+257:ao):bw)/\f'.get 5= .int .i64 ((d5+1:ao):bw)/\f'.get 8=yc/\f'.get 10=tc/\f'.get 11=yl/\f'.get 13= .int .i64 (av:ao)/\f'.get 14= .int .i64 (an:ao)/\vH base jf jb D P (m:ao) bv o t' x8/\Bx jb t4 t') ?_ ?_
 ·intro Q' pR;cases ax with
  |error e=>
   have c0:¬((qG (.error e):ao):bw)=0:=fun c=>by obtain⟨q,hq⟩:=kA.bad.1 (by omega);cases hq
   simp(disch:=omega)only[aj,ak,QM,WP,↓ab,undef,hn,a0 c0];rw[Zx] at pR;exact pR _ _ ⟨by simp only[ag,hn],by simp only[aa,↓ab,WP,h0],by simp only[aa,↓ab,WP,h4],by simp only[aa,↓ab,WP,h5],by simp only[aa,↓ab,WP,h8],by simp only[aa,↓ab,WP,cJ],by simp only[aa,↓ab,WP,eC],by simp only[aa,↓ab,WP,mY],by simp only[aa,↓ab,WP,pO],kA,Bx.refl _ _⟩
  |ok q1=>
   have c0:((qG (.ok q1):ao):bw)=0:=rfl;by_cases c1:M<l.length+an
   ·have d1:((l.length:ao):bw)+((an:ao):bw)>((M:ao):bw):=by omega
    simp(disch:=omega)only[aj,ak,ad,QM,WP,↓ab,hn,h0,h4,h5,eC,pO,c0,Vm.aL.aQ dE,aB,eM,bz d1,bT,kA.w0];refine(kG jt base _ jf jb D P q1 4 _ bv o kA (by decide)).mono ?_;rintro _ t5 ⟨h5R,j5⟩;simp(disch:=omega)only[aj,QM,↓ab,hn];exact pR _ _ ⟨by simp only[ag,hn],by simp only[aa,↓ab,WP,h0],by simp only[aa,↓ab,WP,h4],by simp only[aa,↓ab,WP,h5],by simp only[aa,↓ab,WP,h8],by simp only[aa,↓ab,WP,cJ],by simp only[aa,↓ab,WP,eC],by simp only[aa,↓ab,WP,mY],by simp only[aa,↓ab,WP,pO],by rw[Zx,oS _ c1];exact h5R,j5⟩
   have d1:¬((l.length:ao):bw)+((an:ao):bw)>((M:ao):bw):=by omega
   simp(disch:=omega)only[aj,ak,ad,QM,WP,↓ab,hn,h4,h5,eC,pO,c0,Vm.aL.aQ dE,aB,eM,a0 d1];exact pR _ _ ⟨by simp only[ag,hn],by simp only[aa,↓ab,WP,h0],by simp only[aa,↓ab,WP,h4],by simp only[aa,↓ab,WP,h5],by simp only[aa,↓ab,WP,h8],by simp only[aa,↓ab,WP,cJ],by simp only[aa,↓ab,WP,eC],by simp only[aa,↓ab,WP,mY],by simp only[aa,↓ab,WP,pO],by rw[Zx,sJ _ c1];exact kA,Bx.refl _ _⟩
 clear hn h0 h4 h5 h8 cJ eC mY pO f;rintro f t5 ⟨hn,h0,h4,h5,h8,cJ,eC,mY,pO,hx3,j5⟩;have Vn:Own t5 1 yl l.length (bm l):=sK Vm j5 (fun e=>by have:=idl _ e;omega);have RM:Own t5 1 yc 19 (bm oL):=sK afx j5 (fun e=>by have:=Zv _ e;omega);have afz:Own t5 1 tc oL.length (bm (fQ oL)):=sK afy j5 (fun e=>by have:=Yc _ e;omega);have abK:=Rn.trans j5.Zq;have n5' :t5.next=t4.next:=j5.1;clear Vm afx afy Rn kA Zx;simp(disch:=omega)only[aj,QM,↓ab,hn];refine Comes.bD (fun z f t' =>∃(i:ao) (y:bk),z=an-i/\i<=an/\Own t' 1 y (l.length+i) (bm (l++bb i av))/\aM t2.next y/\Own t' 1 yc 19 (bm oL)/\Own t' 1 tc oL.length (bm (fQ oL))/\lC jf jb o s o t' /\t2.next<=t'.next/\vH base jf jb D P (m:ao) bv o t' x8/\f.n=264/\f.get 0=dF jf/\f.get 4= .int .i64 ((n5+257:ao):bw)/\f.get 5= .int .i64 ((d5+1:ao):bw)/\f.get 8=yc/\f.get 10=tc/\f.get 11=y/\f.get 13= .int .i64 (av:ao)/\f.get 14= .int .i64 (an:ao)/\f.get 15= .int .i64 (i:ao)/\((∃r,x8= .ok r)\/i=0))
  (fun z f t' =>z= .exit 5/\∃(i:ao) (y:bk),Own t' 1 y (l.length+i) (bm (l++bb i av))/\aM t2.next y/\Own t' 1 yc 19 (bm oL)/\Own t' 1 tc oL.length (bm (fQ oL))/\lC jf jb o s o t' /\t2.next<=t'.next/\vH base jf jb D P (m:ao) bv o t' x8/\f.n=264/\f.get 0=dF jf/\f.get 4= .int .i64 ((n5+257:ao):bw)/\f.get 5= .int .i64 ((d5+1:ao):bw)/\f.get 8=yc/\f.get 10=tc/\f.get 11=y/\(((∃r,x8= .ok r)/\i=an)\/((∃e,x8= .error e)/\i=0)))
  ⟨0,yl,rfl,by omega,by simpa using Vn,Jj,RM,afz,abK,by omega,hx3,by simp only[ag,hn],by simp only[aa,↓ab,WP,h0],by simp only[aa,↓ab,WP,h4],by simp only[aa,↓ab,WP,h5],by simp only[aa,↓ab,WP,h8],by simp only[aa,↓ab,WP,cJ],by simp only[aa,↓ab,WP,eC],by simp only[aa,↓ab,WP,mY],by simp only[aa,↓ab,WP,pO],by simp only[aa,↓ab];rfl,.inr rfl⟩ ?_ ?_
 ·clear hn h0 h4 h5 h8 cJ eC mY pO f hx3 Vn RM afz;rintro Q2 El z f t' ⟨i,y,rfl,hi,hy,ko,RN,RO,RP,N4,ET,hn,h0,h4,h5,h8,cJ,eC,mY,pO,Bm,gF⟩;by_cases tm:i<an;rotate_left
  ·obtain rfl:i=an:=by omega
   have d1:¬((i:ao):bw)<((i:ao):bw):=by omega
   simp(disch:=omega)only[aj,ak,QM,WP,↓ab,undef,hn,pO,Bm,a0 d1];refine El _ _ _ ⟨rfl,i,y,hy,ko,RN,RO,RP,N4,ET,by simp only[ag,hn],by simp only[aa,↓ab,WP,h0],by simp only[aa,↓ab,WP,h4],by simp only[aa,↓ab,WP,h5],by simp only[aa,↓ab,WP,h8],by simp only[aa,↓ab,WP,cJ],by simp only[aa,↓ab,WP,eC],?_⟩;cases x8 with
   |ok r=>exact .inl ⟨⟨r,rfl⟩,rfl⟩
   |error e=>
    rcases gF with ⟨r,hr⟩|h
    ·cases hr
    exact .inr ⟨⟨e,rfl⟩,h⟩
  have d1:((i:ao):bw)<((an:ao):bw):=by omega
  cases x8 with
  |error e=>
   have hi0:i=0:=by
    rcases gF with ⟨r,hr⟩|h
    ·cases hr
    exact h
   have c0:¬((qG (.error e):ao):bw)=0:=fun c=>by obtain⟨q,hq⟩:=ET.bad.1 (by omega);cases hq
   simp(disch:=omega)only[aj,ak,QM,WP,↓ab,hn,h0,pO,Bm,bz d1,bT,cP,ET.w0,ET.l2,a0 c0];exact El _ _ _ ⟨rfl,i,y,hy,ko,RN,RO,RP,N4,ET,by simp only[ag,hn],by simp only[aa,↓ab,WP,h0],by simp only[aa,↓ab,WP,h4],by simp only[aa,↓ab,WP,h5],by simp only[aa,↓ab,WP,h8],by simp only[aa,↓ab,WP,cJ],by simp only[aa,↓ab,WP,eC],.inr ⟨⟨e,rfl⟩,hi0⟩⟩
  |ok r=>
  have c0:((qG (.ok r):ao):bw)=0:=rfl;have hg:=PI r rfl;simp(disch:=omega)only[aj,ak,ae,QM,WP,↓ab,hn,h0,eC,mY,pO,Bm,bz d1,bT,cP,ET.w0,ET.l2,c0,gI dE aV qf];refine cj dE aV sy qf rfl hy (by simp only[aa,↓ab,WP]) (by decide) (by simp only[ag,hn];decide) (by simp only[ag,hn];decide) (by rfl) (by decide) rfl (by omega) (by omega) ko N4 ?_;intro bs y2 t6 nh ig aR dK sd;have idy:∀i,aI y=some i->s.next<=i:=fun i hi=>by have:=ko i hi;omega
  have e6:bm (l++bb i av)++[Value.int .i64 (av:ao)]=bm (l++bb (i+1) av):=by
   rw[List.replicate_succ',<-List.append_assoc];exact vI _ [av]
  rw[e6] at nh;have yp:∀(v:bk) (L:a8 bk) (n:ao),Own t' 1 v n L->(∀i,aI v=some i->i<t2.next)->Own t6 1 v n L:=fun v L n h1 h2=>h1.turns dK (fun i hi e=>by have:=h2 i hi;have:=ko i e;omega)
  simp(disch:=omega)only[aj,QM,WP,↓ab,hn,Bm,aB];exact ar (an-(i+1)) (by omega) ⟨i+1,y2,rfl,by omega,nh,ig,yp _ _ _ RN (fun i hi=>Gq.ei i hi),yp _ _ _ RO (fun i hi=>Jz.ei i hi),RP.EO dK idy,cd N4 dK.next,ET.turns dK (apart y idy) (by omega),by simp only[ag,hn],by simp only[aa,↓ab,WP,h0],by simp only[aa,↓ab,WP,h4],by simp only[aa,↓ab,WP,h5],by simp only[aa,↓ab,WP,h8],by simp only[aa,↓ab,WP,cJ],by simp only[aa,↓ab,WP],by simp only[aa,↓ab,WP,mY],by simp only[aa,↓ab,WP,pO],by simp only[aa,↓ab];rfl,.inl ⟨r,rfl⟩⟩
 clear hn h0 h4 h5 h8 cJ eC mY pO f;rintro z f t' ⟨rfl,i,y,hy,ko,RN,RO,RP,N4,ET,hn,h0,h4,h5,h8,cJ,eC,(⟨⟨r,hr⟩,rfl⟩|⟨⟨e,he⟩,rfl⟩)⟩
 ·subst hr;rw[iS] at pI;have hg:=PI r rfl;simp(disch:=omega)only[aj,↓ab];exact ar k (by omega) ⟨l++bb i av,y,by rw[cg,cD];exact hy,ko,by rw[cg,cD];omega,Lj rM hg.2.2,RN,RO,RP,N4,by simp only[hn],by simp only[h0],by simp only[h4],by simp only[h5],by simp only[h8],by simp only[cJ],by simp only[eC],.inl ⟨r,ET,pI.symm,by omega⟩⟩
 subst he;rw[nK] at pI;have hy0:Own t' 1 y l.length (bm l):=by simpa using hy
 simp(disch:=omega)only[aj,↓ab];exact ar 0 (by omega) ⟨l,y,hy0,ko,hlM,rM,RN,RO,RP,N4,by simp only[hn],by simp only[h0],by simp only[h4],by simp only[h5],by simp only[h8],by simp only[cJ],by simp only[eC],.inr ⟨rfl,e,ET,pI⟩⟩
end Go.Proofs.YtdfjfncifneocaaGreat
namespace Go.Cl.Nf
open Go.Cl.Fx Go.Cl.Sto
theorem Vo (N:ao)(D:a8 b4)(M p:ao)(P:a8 b4):mU N D M p P=qm (jP D (jP D (.ok p) 1) 2) fun r=>qm (kv N D M (gW D (jP D (.ok p) 1) 2) r P) fun y=> .ok (gW D (.ok p) 1,y.1,y.2):=by
 unfold mU;by_cases c1:p+1<=8*D.length;rotate_left
 ·rw[dO c1,jH c1];rfl
 rw[dn c1,jG c1,kx c1];dsimp only;by_cases c2:p+1+2<=8*D.length;rotate_left
 ·rw[dO c2,jH c2];rfl
 rw[dn c2,jG c2,kx c2,iS];dsimp only;cases kv N D M (bY D (p+1) 2) (p+1+2) P with
 |error e=>rfl
 |ok y=>rfl
theorem PJ {D:a8 b4}:∀{r:a8 ao} {p:ao} {o o' :a8 ao} {q:ao},zi D r p o= .ok (o',q)->p<=q
 |[],p,o,o',q,h=>by injection h with h;injection h with h1 h2;omega
 |i::r,p,o,o',q,h=>by
  unfold zi at h;cases h1:dW D p 3 with
  |error e=>rw[h1] at h;cases h
  |ok x=>rw[h1] at h;have:=PJ h;omega
theorem HT {D:a8 b4}{s p:ao}{l:a8 ao}{x n q:ao}(h:oA D s p l= .ok (x,n,q)):p<=q:=by
 unfold oA at h;split at h
 ·split at h
  ·cases h
  cases h1:dW D p 2 with
  |error e=>rw[h1] at h;cases h
  |ok y=>rw[h1] at h;injection h with h;injection h with _ h;injection h with _ h;omega
 split at h
 ·cases h1:dW D p 3 with
  |error e=>rw[h1] at h;cases h
  |ok y=>rw[h1] at h;injection h with h;injection h with _ h;injection h with _ h;omega
 split at h
 ·cases h1:dW D p 7 with
  |error e=>rw[h1] at h;cases h
  |ok y=>rw[h1] at h;injection h with h;injection h with _ h;injection h with _ h;omega
 injection h with h;injection h with _ h;injection h with _ h;omega
theorem Ln {D:a8 b4}{C:a8 ao}{M:ao}:∀{k p:ao} {l l' :a8 ao} {q:ao},ku D C M k p l= .ok (l',q)->p<=q
 |0,p,l,l',q,h=>by cases h
 |k+1,p,l,l',q,h=>by
  unfold ku at h;split at h
  ·injection h with h;injection h with _ h;omega
  cases h1:sym D C p with
  |error e=>rw[h1] at h;cases h
  |ok c=>
   obtain⟨c1,c2⟩:=c;rw[h1] at h;dsimp only at h;cases h2:oA D c1 c2 l with
   |error e=>rw[h2] at h;cases h
   |ok a=>
    obtain⟨a1,a2,a3⟩:=a;rw[h2] at h;dsimp only at h;split at h
    ·cases h
    have:=Ln h;have:=HT h2;have:=sG h1;omega
theorem Yd {N:ao}{D:a8 b4}{p q:ao}{y:a8 ao×a8 ao}(h:zj N D p= .ok (y,q)):p<=q:=by
 unfold zj at h;cases h1:rR D p with
 |error e=>rw[h1] at h;cases h
 |ok c=>
  rw[h1] at h;dsimp only at h;cases h2:zi D (order.take c.2.2) (p+14) (bb 19 0) with
  |error e=>rw[h2] at h;cases h
  |ok o=>
   rw[h2] at h;dsimp only at h;have:=PJ (o' :=o.1) (q:=o.2) h2;split at h
   ·cases h3:ku D o.1 (c.1+c.2.1) N o.2 [] with
    |error e=>rw[h3] at h;cases h
    |ok l=>
     rw[h3] at h;dsimp only at h;have:=Ln (l' :=l.1) (q:=l.2) h3;split at h
     ·injection h with h;injection h with _ h;omega
     cases h
   cases h
theorem Vp {N:ao}{D:a8 b4}{M kind p:ao}{P:a8 b4}{q:ao}{P' :a8 b4}(h:kv N D M kind p P= .ok (q,P'))(hp:P.length<=M):p<=q:=by
 unfold kv at h;split at h
 ·exact(EG h hp).1
 split at h
 ·exact(o8 h hp).1
 split at h
 ·cases h1:zj N D p with
  |error e=>rw[h1] at h;cases h
  |ok c=>
   rw[h1] at h;have:=Yd (y:=c.1) (q:=c.2) h1;have:=(o8 h hp).1;omega
 cases h
theorem HU {N:ao}{D:a8 b4}{M p:ao}{P:a8 b4}{last q:ao}{P' :a8 b4}(h:mU N D M p P= .ok (last,q,P'))(hp:P.length<=M):p+3<=q:=by
 unfold mU at h;cases h1:dW D p 1 with
 |error e=>rw[h1] at h;cases h
 |ok c=>
  rw[h1] at h;dsimp only at h;cases h2:dW D (p+1) 2 with
  |error e=>rw[h2] at h;cases h
  |ok d=>
   rw[h2] at h;dsimp only at h;cases h3:kv N D M d (p+3) P with
   |error e=>rw[h3] at h;cases h
   |ok r=>
    rw[h3] at h;injection h with h;injection h with e0 h;injection h with e1 e2
    have:=Vp (q:=r.1) (P' :=r.2) h3 hp;omega
end Go.Cl.Nf
namespace Go.Proofs.YtdfjfncifneocaaGreat
open Go.Cl Go.Cl.Rw Go.Cl.Sto Go.Cl.Fx Go.Cl.Nf
def abL (s:au)(v:bk)(s' :au):b7 ao (ao×a8 b4)->Prop
 | .ok (q,P)=>∃o,v= .tuple #[o,.int .i64 ((q+7)/8:ao),.int .i64 0]/\Own s' 1 o P.length (ofBytes P)/\aM s.next o/\aw s.next s s'
 | .error e=>v= .tuple #[.slice none 0 0,.int .i64 0,.int .i64 (e:ao)]/\aw s.next s s'
theorem Jl {lib:aD}(hl:lib.at 117=none)(aF:lib.at 163=none)(hdy:lib.at 166=none)(QO:lib.at 164=none)(hcd:lib.at 165=none)(Zr:lib.at 180=none)(hmy:lib.at 198=none)(tC:lib.at 195=none)(a7:lib.at 162=none)(kJ:lib.at 194=none)(wO:lib.at 196=none)(hds:lib.at 197=none)(jt:lib.at 167=none)
  (s:au) (x:bk) (D:a8 b4) (N:ao) (hx:aU s 1 x D.length (ofBytes D)) (EE:D.length<=100000000) (M:bw) (hM:M<=100000000) (hN:8*D.length+1<N):
  Runs aC lib 117 [x,.int .i64 M] s fun v s' =>abL s v s' (zk N D M.toNat):=by
 obtain⟨m,hm⟩:∃m,m=M.toNat:=⟨_,rfl⟩
 rw[<-hm];have Tl:m<=100000000:=by omega
 have aj1:(if M<0 then(0:bw) else M)=((m:ao):bw):=by split<;>omega
 refine Runs.enter 121 Tryz.func117 rfl hl rfl rfl ?_;intro f hn hf;have h0:f.get 0=x:=hf 0;have h1:f.get 1= .int .i64 M:=hf 1;clear hf;simp only[aj,ae,QM,WP,↓ab,hn,h0,afd hx.sZ];refine aA ?_;intro s1 fp aY gZ;obtain⟨jb,B3⟩:∃j,j=s.next:=⟨_,rfl⟩
 rw[<-B3] at fp;simp only[aj,ad,ae,QM,WP,dc,↓ab,hn,h1,<-B3,cM,dT,aj1,afe];refine aA ?_;intro s2 xT aR mf;obtain⟨jf,hjf⟩:∃j,j=s1.next:=⟨_,rfl⟩
 rw[<-hjf] at xT;have dr:=fp.keeps aR;have og:aw s.next s s2:=aY.trans (aR.weaken (by omega));have hF0:Fl s.next s2 jf jb D 0 [] (m:ao) x (.slice none 0 0):=⟨dr,xT,(hx.low).stay og,.nil,aM.nil _,(fun e=>by cases e),(fun e=>by cases e),by omega,by omega,by omega⟩;obtain⟨R,hR⟩:∃R,R=zk N D m:=⟨_,rfl⟩
 rw[<-hR];simp only[aj,QM,dc,↓ab,hn,<-hjf,cM,dT];refine Comes.bD (fun z f t=>s.next<=t.next/\aw s.next s t/\f.n=121/\f.get 7=dF jf/\((∃(p:ao) (P:a8 b4) (bv o1:bk),mV N D m z p P=R/\8*D.length<p+z/\p<=8*D.length/\P.length<=m/\Fl s.next t jf jb D p P (m:ao) bv o1)\/(z=0/\∃e,Bd s.next t jf jb e/\R= .error e)))
  (fun z f t=>(z= .ret/\f.n=121/\∃(q:ao) (P:a8 b4) (o:bk),R= .ok (q,P)/\Own t 1 o P.length (ofBytes P)/\aM s.next o/\aw s.next s t/\f.get 4=o/\f.get 5= .int .i64 ((q+7)/8:ao)/\f.get 6= .int .i64 0)\/(z= .exit 0/\f.n=121/\f.get 7=dF jf/\aw s.next s t/\∃e,Bd s.next t jf jb e/\R= .error e))
  (k:=N) ⟨og.next,og,by simp only[ag,hn],by simp only[aa,↓ab],.inl ⟨0,[],x,_,hR.symm,by omega,by omega,ds _,hF0⟩⟩ ?_ ?_
 rotate_left
 ·clear hn h0 h1 f hF0;rintro z f t (⟨rfl,hn,q,P,o,zl,ho,hoF,hs,h4,h5,h6⟩|⟨rfl,hn,h7,hs,e,hB,hRe⟩)
  ·simp only[aj,al,oneOf,QM,↓ab,hn,h4,h5,h6,eb];rw[zl];exact⟨o,rfl,ho,hoF,hs⟩
  obtain⟨jS,Mc,o',m',lK⟩:=id hB;have w0:=lK.f.load (P:=aC) cq (off:=0) (c:=4) rfl (by simp);have l2:=lK.b.load (P:=aC) aP (off:=2) (c:=4) rfl (by simp);simp only[aj,ak,al,oneOf,QM,WP,↓ab,hn,h7,bT,cP,w0,l2,eb];rw[hRe];exact⟨rfl,hs⟩
 clear hn h0 h1 f hF0 fp dr xT aY aR og gZ mf hR;rintro Q hQ z f t ⟨vR,hs,hn,h7,(⟨p,P,bv,o,hz,hpz,BS,zD,hF⟩|⟨rfl,e,hB,hRe⟩)⟩;rotate_left
 ·obtain⟨jS,Mc,o',m',lK⟩:=id hB;have w0:=lK.f.load (P:=aC) cq (off:=0) (c:=4) rfl (by simp);have l2:=lK.b.load (P:=aC) aP (off:=2) (c:=4) rfl (by simp);have hp:=lK.pos;have c0:¬(e:bw)=0:=by omega
  simp only[aj,ak,QM,↓ab,hn,h7,bT,cP,w0,l2,a0 c0];exact hQ _ _ _ (.inr ⟨rfl,by simp only[ag,hn],by simp only[aa,↓ab,WP,h7],hs,e,hB,hRe⟩)
 obtain⟨k,rfl⟩:∃k,z=k+1:=⟨z-1,by omega⟩
 have h0R:vH s.next jf jb D P (m:ao) bv o t (.ok p):=⟨hF,BS⟩;have w0:=hF.f.load (P:=aC) cq (off:=0) (c:=4) rfl (by simp);have l2:=hF.b.load (P:=aC) aP (off:=2) (c:=4) rfl (by simp);simp only[aj,ak,ad,QM,WP,↓ab,hn,h7,bT,cP,w0,l2];refine(kF a7 jt s.next t jf jb D P (.ok p) 1 _ bv o h0R (by omega) (by omega)).mono ?_;rintro _ t1 ⟨rfl,PF,j1⟩;obtain⟨last,Zz⟩:∃n,n=gW D (.ok p) 1:=⟨_,rfl⟩
 obtain⟨x1,ex1⟩:∃x,x=jP D (.ok p) 1:=⟨_,rfl⟩
 rw[<-Zz];rw[<-ex1] at PF;simp only[aj,ak,ad,QM,WP,↓ab,hn,h7,bT,PF.w0];refine(kF a7 jt s.next t1 jf jb D P x1 2 _ bv o PF (by omega) (by omega)).mono ?_;rintro _ t2 ⟨rfl,Lm,j2⟩;obtain⟨kind,ZA⟩:∃n,n=gW D x1 2:=⟨_,rfl⟩
 obtain⟨x2,ex2⟩:∃x,x=jP D x1 2:=⟨_,rfl⟩
 rw[<-ZA];rw[<-ex2] at Lm;have hbe:=Vo N D m p P;rw[<-Zz,<-ex1,<-ZA,<-ex2] at hbe;have aR:aw s.next s t2:=hs.trans ((j1.trans j2).Zq.stay hF.lf hF.lb hF.fresh vR);have jD:s.next<=t2.next:=aR.next;have apA:jf<t2.next:=by have:=hF.f.lt;have:=(j1.trans j2).1;omega
 have apB:jb<t2.next:=by have:=hF.b.lt;have:=(j1.trans j2).1;omega
 simp only[aj,ak,QM,WP,↓ab,hn,h7,bT,cP,Lm.w0,Lm.l2];refine EP (fun f' t' =>f'.n=121/\f'.get 7=dF jf/\f'.get 8= .int .i64 (last:ao)/\s.next<=t'.next/\aw s.next s t' /\((∃(q:ao) (P' :a8 b4) (o' :bk),mU N D m p P= .ok (last,q,P')/\Fl s.next t' jf jb D q P' (m:ao) bv o')\/(∃e,mU N D m p P= .error e/\Bd s.next t' jf jb e))) ?_ ?_
 ·intro Q' pR;cases x2 with
  |error e=>
   have c0:¬((qG (.error e):ao):bw)=0:=fun c=>by obtain⟨q,hq⟩:=Lm.bad.1 (by omega);cases hq
   simp only[aj,ak,a0 c0];exact pR _ _ ⟨by simp only[ag,hn],by simp only[aa,↓ab,WP,h7],by simp only[aa,↓ab,WP],jD,aR,.inr ⟨e,hbe,Lm⟩⟩
  |ok r=>
  have c0:((qG (.ok r):ao):bw)=0:=rfl;rw[iS] at hbe;have ig:Fl s.next t2 jf jb D r P (m:ao) bv o:=Lm.1;have hrD:r<=8*D.length:=Lm.2;have out:∀(f' :aZ) (t' :au) (B:b7 ao (ao×a8 b4)),kv N D m kind r P=B->Vf s.next jf jb D (m:ao) bv o t2 t' B->f'.n=121->f'.get 7=dF jf->f'.get 8= .int .i64 (last:ao)->Q' .normal f' t' :=fun f' t' B hB hO h1 h2 h3=>by
   rw[hB] at hbe;cases B with
   |ok y=>
    obtain⟨q,P'⟩:=y;obtain⟨o',zw,dg⟩:=hO;have tQ:=dg.stay ig.lf ig.lb ig.fresh jD;exact pR _ _ ⟨h1,h2,h3,cd jD tQ.next,aR.trans tQ,.inl ⟨q,P',o',hbe,zw⟩⟩
   |error e=>
    obtain⟨lK,tQ⟩:=hO;exact pR _ _ ⟨h1,h2,h3,cd jD tQ.next,aR.trans tQ,.inr ⟨e,hbe,lK⟩⟩
  by_cases Vq:kind=0
  ·have d0:((kind:ao):bw)=0:=by omega
   simp only[aj,ak,ad,QM,WP,↓ab,hn,h7,c0,bz d0];refine(Je aF a7 kJ jt s.next t2 jf jb D P r m bv o ig hrD EE zD Tl jD).mono ?_;intro _ t3 hO;simp only[aj,QM,↓ab,hn];exact out _ _ _ (by unfold kv;rw[b8 Vq]) hO (by simp only[ag,hn]) (by simp only[aa,↓ab,WP,h7]) (by simp only[aa,↓ab,WP])
  have d0:¬((kind:ao):bw)=0:=by omega
  by_cases Ye:kind=1
  ·have d1:((kind:ao):bw)=1:=by omega
   simp only[aj,ak,ad,QM,WP,↓ab,hn,c0,a0 d0,bz d1];refine(Nr QO t2).mono ?_;rintro _ t3 ⟨ta,td,rfl,hA,hB,hAF,hBF,k3⟩;have Bq:Fl s.next t3 jf jb D r P (m:ao) bv o:=⟨ig.b.keeps k3,ig.f.keeps k3,ig.low.stay (k3.weaken jD),ig.own.keeps k3,ig.fresh,ig.nb,ig.nf,ig.ne,ig.lb,ig.lf⟩;have r8:∀i,aI o=some i->i<t2.next:=fun i hi=>ig.own.ei i hi
   have tA:vC jf jb o t3 ta iQ:=⟨by have e:iQ.length=288:=qd;rw[e];exact hA.aL,fun i hi=>⟨hA.ei i hi,by have:=hAF i hi;omega,by have:=hAF i hi;omega,fun e=>by have:=r8 i e;have:=hAF i hi;omega⟩⟩;have tB:vC jf jb o t3 td lX:=⟨hB.aL,fun i hi=>⟨hB.ei i hi,by have:=hBF i hi;omega,by have:=hBF i hi;omega,fun e=>by have:=r8 i e;have:=hBF i hi;omega⟩⟩;have oX:=k3.next;simp only[aj,ak,ad,QM,WP,↓ab,hn,h7,Ns,Nt];refine(Bz hcd Zr tC a7 kJ wO hds jt s.next t3 jf jb D P r m N bv o Bq hrD EE zD Tl (by omega) (by omega) ta td iQ lX tA tB (by have e:iQ.length=288:=qd;omega) (by decide)).mono ?_;intro _ t4 hO;simp only[aj,QM,↓ab,hn];refine out _ t4 (iP D m iQ lX N r P) (by unfold kv;rw[b5 Vq,b8 Ye]) ?_ (by simp only[ag,hn]) (by simp only[aa,↓ab,WP,h7]) (by simp only[aa,↓ab,WP]);cases PK:iP D m iQ lX N r P with
   |error e=>rw[PK] at hO;exact⟨hO.1,(k3.weaken jD).trans hO.2⟩
   |ok y=>
    rw[PK] at hO;obtain⟨o',h1,h2⟩:=hO;exact⟨o',h1,lC.trans ⟨oX,fun i hi _ _ _=>k3.get i hi,.inl rfl⟩ h2⟩
  have d1:¬((kind:ao):bw)=1:=by omega
  by_cases ck2:kind=2
  ·have d2:((kind:ao):bw)=2:=by omega
   simp only[aj,ak,ad,QM,WP,↓ab,hn,h7,c0,a0 d0,a0 d1,bz d2];refine(RK hdy Zr hmy tC a7 jt s.next t2 jf jb D P r m N bv o ig hrD EE hN jD).mono ?_;intro v t3 D8;cases Sq:zj N D r with
   |error e=>
    rw[Sq] at D8;obtain⟨⟨va,vb,rfl⟩,hB,dg⟩:=D8;obtain⟨jS,Mc,o',m',lK⟩:=id hB;have w0:=lK.f.load (P:=aC) cq (off:=0) (c:=4) rfl (by simp);have l2:=lK.b.load (P:=aC) aP (off:=2) (c:=4) rfl (by simp);have hp:=lK.pos;have c1:¬(e:bw)=0:=by omega
    simp only[aj,ak,QM,WP,↓ab,undef,hn,h7,Ns,Nt,bT,cP,w0,l2,a0 c1];exact out _ t3 (.error e) (by unfold kv;rw[b5 Vq,b5 Ye,b8 ck2,Sq]) ⟨hB,dg.stay ig.lf ig.lb ig.fresh jD⟩ (by simp only[ag,hn]) (by simp only[aa,↓ab,WP,h7]) (by simp only[aa,↓ab,WP])
   |ok y=>
    obtain⟨⟨a,b⟩,q⟩:=y;rw[Sq] at D8;obtain⟨va,vb,rfl,Bq,hq3,dg,tA,tB,hla,Xa⟩:=D8;have w0:=Bq.f.load (P:=aC) cq (off:=0) (c:=4) rfl (by simp);have l2:=Bq.b.load (P:=aC) aP (off:=2) (c:=4) rfl (by simp);have oX:=dg.next;simp only[aj,ak,ad,QM,WP,↓ab,undef,hn,h7,Ns,Nt,bT,cP,w0,l2];refine(Bz hcd Zr tC a7 kJ wO hds jt s.next t3 jf jb D P q m N bv o Bq hq3 EE zD Tl (by omega) (by omega) va vb a b tA tB hla Xa).mono ?_;intro _ t4 hO;simp only[aj,QM,↓ab,hn];refine out _ t4 (iP D m a b N q P) (by unfold kv;rw[b5 Vq,b5 Ye,b8 ck2,Sq]) ?_ (by simp only[ag,hn]) (by simp only[aa,↓ab,WP,h7]) (by simp only[aa,↓ab,WP]);cases PK:iP D m a b N q P with
    |error e=>rw[PK] at hO;exact⟨hO.1,(dg.stay ig.lf ig.lb ig.fresh jD).trans hO.2⟩
    |ok y=>
     rw[PK] at hO;obtain⟨o',h1,h2⟩:=hO;exact⟨o',h1,dg.trans h2⟩
  have d2:¬((kind:ao):bw)=2:=by omega
  simp only[aj,ak,ad,QM,WP,↓ab,hn,h7,c0,a0 d0,a0 d1,a0 d2,bT,Lm.w0];refine(kG jt s.next t2 jf jb D P r 4 _ bv o Lm (by decide)).mono ?_;rintro _ t3 ⟨Vk,j3⟩;simp only[aj,QM,↓ab,hn];exact out _ t3 (.error 4) (by unfold kv;rw[b5 Vq,b5 Ye,b5 ck2]) ⟨Vk,j3.Zq.stay ig.lf ig.lb ig.fresh jD⟩ (by simp only[ag,hn]) (by simp only[aa,↓ab,WP,h7]) (by simp only[aa,↓ab,WP])
 clear hn h7 f w0 l2 PF Lm hbe h0R;rintro f t' ⟨hn,h7,h8,afA,tQ,(⟨q,P',o',PL,zw⟩|⟨e,PL,hB⟩)⟩;rotate_left
 ·obtain⟨jS,Mc,o',m',lK⟩:=id hB;have w0:=lK.f.load (P:=aC) cq (off:=0) (c:=4) rfl (by simp);have l2:=lK.b.load (P:=aC) aP (off:=2) (c:=4) rfl (by simp);have hp:=lK.pos;have c0:¬(e:bw)=0:=by omega
  rw[mV,PL] at hz;simp only[aj,ak,QM,WP,↓ab,undef,hn,h7,bT,cP,w0,l2,a0 c0];exact ar 0 (by omega) ⟨afA,tQ,by simp only[ag,hn],by simp only[aa,↓ab,WP,h7],.inr ⟨rfl,e,hB,hz.symm⟩⟩
 have w0:=zw.f.load (P:=aC) cq (off:=0) (c:=4) rfl (by simp);have w1:=zw.f.load (P:=aC) gJ (off:=1) (c:=4) rfl (by simp);have l1:=zw.b.load (P:=aC) aP (off:=1) (c:=4) rfl (by simp);have l2:=zw.b.load (P:=aC) aP (off:=2) (c:=4) rfl (by simp);have hle:=As PL zD;have L3:=HU PL zD;rw[mV,PL] at hz;dsimp only at hz;by_cases cl:last=1
 ·have d1:((last:ao):bw)=1:=by omega
  rw[b8 cl] at hz;have e7:((q:ao):bw)+7=((q+7:ao):bw):=by omega
  simp(disch:=omega)only[aj,ak,QM,WP,↓ab,undef,hn,h7,h8,bT,Bw,zh,cP,w0,w1,l1,l2,bz d1,zw.own.self,e7,gA,Nq,aB];exact hQ _ _ _ (.inl ⟨rfl,by simp only[ag,hn],q,P',o',hz.symm,zw.own,zw.fresh,tQ,by simp only[aa,↓ab,WP,and_self]⟩)
 have d1:¬((last:ao):bw)=1:=by omega
 rw[b5 cl] at hz;simp only[aj,ak,QM,WP,↓ab,undef,hn,h7,h8,bT,cP,w0,l2,a0 d1];exact ar k (by omega) ⟨afA,tQ,by simp only[ag,hn],by simp only[aa,↓ab,WP,h7],.inl ⟨q,P',bv,o',hz,by omega,hle.1,hle.2.1,zw⟩⟩
end Go.Proofs.YtdfjfncifneocaaGreat
namespace Go.Cl.Nf
open Go.Cl.Fx Go.Cl.Sto
theorem wI (C:a8 ao):∀m n,1<=n->n<=m->∀r,r<C.count n->(dp C (n-1)).length+r<(dp C m).length/\(dp C m).getD ((dp C (n-1)).length+r) 0=(idx C n).getD r 0
 |0,n,h1,h2,r,hr=>by omega
 |m+1,n,h1,h2,r,hr=>by
  have hl:=xC C (m+1);by_cases c:n=m+1
  ·subst c;simp only[dp,dv];refine⟨by rw[cg,hl];omega,?_⟩;rw[af,cU (by omega),Nat.add_sub_cancel_left,af]
  obtain⟨k1,k2⟩:=wI C m n h1 (by omega) r hr;simp only[dp];refine⟨by rw[cg];omega,?_⟩;rw[af,ch k1,<-af,k2]
theorem abQ (C:a8 ao){n:ao}(h:1<=n):cn C n=C.count n:=b5 (by omega)
theorem HV (C:a8 ao)(n:ao):(dp C (n+1)).length=(dp C n).length+C.count (n+1):=by
 simp only[dp];rw[cg,xC]
theorem HW (C:a8 ao):∀m,(dp C m).length<=C.length:=by
 have key:∀(L:a8 ao) (m:ao),(dp L m).length=(L.filter (fun x=>decide (1<=x/\x<=m))).length:=by
  intro L m
  induction m with
  |zero=>
   rw[show L.filter (fun x=>decide (1<=x/\x<=0))=[] from List.filter_eq_nil_iff.2 (fun x _=>by simp;omega)];rfl
  |succ m ih=>
   rw[HV,ih];clear ih
   induction L with
   |nil=>rfl
   |cons a r ih=>
    simp only[List.filter_cons,List.count_cons];by_cases c1:a=m+1
    ·subst c1;have c4:(decide (1<=m+1/\m+1<=m))=false:=ck (by omega);have c5:(decide (1<=m+1/\m+1<=m+1))=true:=cv (by omega);have c6:(m+1==m+1)=true:=by simp
     rw[c4,c5,c6];simp only[if_true,cM];rw[b5 (by decide)];omega
    by_cases c2:1<=a/\a<=m
    ·have c3:1<=a/\a<=m+1:=by omega
     have c4:(decide (1<=a/\a<=m))=true:=cv c2;have c5:(decide (1<=a/\a<=m+1))=true:=cv c3;have c6:(a==m+1)=false:=by simpa using c1
     rw[c4,c5,c6];simp only[if_true,cM];rw[b5 (by decide)];omega
    have c3:¬(1<=a/\a<=m+1):=by omega
    have c4:(decide (1<=a/\a<=m))=false:=ck c2;have c5:(decide (1<=a/\a<=m+1))=false:=ck c3;have c6:(a==m+1)=false:=by simpa using c1
    rw[c4,c5,c6]
    simpa using ih
 intro m;rw[key];exact List.length_filter_le _ _
theorem PM {P:eh}{t e:TypeId}{m:ao}(hu:P.underlying t=some (.array m e))(cX:br P e=some 1)(i o c:ao){x:bw}(h0:0<=x)(hx:x<m)(kk:IntKind):
  bK P t (.pointer (some ⟨i,o,some c⟩)) (.int kk x)=some (.pointer (some ⟨i,o+x.toNat,some c⟩)):=by
 obtain⟨k,rfl⟩:∃k:ao,x=k:=⟨x.toNat,by omega⟩
 have hb:Nat.blt k m=true:=by rw[Nat.blt_eq];omega
 show bK P t _ (.int kk (Int.ofNat k))=_;unfold bK;rw[hu];simp only[cX,hb,if_true,cT,cc]
end Go.Cl.Nf
namespace Go.Proofs.YtdfjfncifneocaaGreat
open Go.Cl Go.Cl.Rw Go.Cl.Sto Go.Cl.Fx Go.Cl.Nf Go.Cl.Bt
def nfp:a8 ao:=[149,220,210,211,187,215,212,188,214,213,189,217,223,218,191,222,221,216,190,150,102,155,192,186,209,105,100]
def Jm (lib:aD):Prop:=∀g,nfp.contains g=true->lib.at g=none
theorem cQ (a b:bk):aH (.tuple #[a,b]) 0=some a:=rfl
theorem cR (a b:bk):aH (.tuple #[a,b]) 1=some b:=rfl
theorem jO.le {base:ao}{s:au}{jx ic:ao}{D:a8 b4}{p:ao}(h:jO base s jx ic D p):p<=8*D.length:=by
 obtain⟨q,now,left,h,-⟩:=h;have:=h.e;have:=h.c.choose_spec.2.2.2;omega
theorem jO.lt {base:ao}{s:au}{jx ic:ao}{D:a8 b4}{p:ao}(h:jO base s jx ic D p):jx<s.next/\ic<s.next/\base<=jx/\base<=ic/\jx≠ic:=by
 obtain⟨q,now,left,h,-⟩:=h;exact⟨h.t.lt,h.c.choose_spec.1.lt,h.lx,h.lc,h.ne⟩
theorem jO.keeps {base:ao}{s s' :au}{jx ic:ao}{D:a8 b4}{p:ao}(h:jO base s jx ic D p)(hb:base<=s.next)(k:aw s.next s s'):jO base s' jx ic D p:=by
 obtain⟨q,now,left,h,h7⟩:=h;exact⟨q,now,left,⟨h.c.keeps hb k,h.t.keeps k,h.e,h.l8,h.r,h.now,h.lx,h.lc,h.ne⟩,h7⟩
def aj6 (base jx ic:ao)(D:a8 b4)(p n:ao)(s:au)(v:bk)(s' :au):b7 ao ao->Prop
 | .ok x=>v= .tuple #[.int .i64 (x:ao),.int .i64 0]/\jO base s' jx ic D (p+n)/\eZ jx ic s s'
 | .error e=>e=2/\v= .tuple #[.int .i64 0,.int .i64 2]/\eZ jx ic s s'
theorem fU {lib:aD}(hL:Jm lib)(base:ao)(s:au)(jx ic:ao)(D:a8 b4)(p n:ao)(h:jO base s jx ic D p)(hb:base<=s.next)(abt:n<=16)(hlen:D.length<=4000000):
  Runs aC lib 187 [rQ jx,.int .i64 (n:ao)] s fun v s' =>aj6 base jx ic D p n s v s' (dW D p n):=by
 refine Runs.enter 13 Tryz.func187 rfl (hL _ rfl) rfl rfl ?_;intro f hn hf;have h0:f.get 0=rQ jx:=hf 0;have h1:f.get 1= .int .i64 (n:ao):=hf 1;clear hf;simp only[aj,ak,ad,QM,WP,↓ab,hn,h0,h1];refine(HK (hL _ rfl) (hL _ rfl) (hL _ rfl) (hL _ rfl) (hL _ rfl) (hL _ rfl) base s jx ic D p (n:ao) h hb hlen).mono ?_;rintro _ s1 ⟨rfl,hB,dg⟩;by_cases c:p+n<=8*D.length
 ·have ht:takes D p (n:ao):=⟨by omega,by omega,by omega⟩;rw[b8 ht,cc] at hB;have e1:qF D p (n:ao)=((bY D p n:ao):bw):=by unfold qF;rw[b8 ht,cc]
  have d1:¬((bY D p n:ao):bw)<0:=by omega
  simp only[aj,al,oneOf,QM,WP,↓ab,hn,e1,a0 d1,ec];rw[dn c];exact⟨rfl,hB,dg⟩
 have ht:¬takes D p (n:ao):=fun h=>c (by have:=h.2.2;omega)
 have e1:qF D p (n:ao)= -1:=by unfold qF;rw[b5 ht]
 have d1:(-1:bw)<0:=by decide
 simp only[aj,al,oneOf,QM,WP,↓ab,hn,e1,bz d1,ec];rw[dO c];exact⟨rfl,rfl,dg⟩
theorem Vr {lib:aD}(hL:Jm lib)(base:ao)(s:au)(jx ic:ao)(D:a8 b4)(p:ao)(h:jO base s jx ic D p)(hb:base<=s.next)(hlen:D.length<=4000000):
  Runs aC lib 220 [rQ jx] s fun v s' =>v= .int .i64 (if p+1<=8*D.length then((bit D p:ao):bw) else-1)/\(p+1<=8*D.length->jO base s' jx ic D (p+1))/\eZ jx ic s s' :=by
 refine Runs.enter 5 Tryz.func220 rfl (hL _ rfl) rfl rfl ?_;intro f hn hf;have h0:f.get 0=rQ jx:=hf 0;clear hf;simp only[aj,ak,ad,QM,WP,↓ab,hn,h0];refine(HK (hL _ rfl) (hL _ rfl) (hL _ rfl) (hL _ rfl) (hL _ rfl) (hL _ rfl) base s jx ic D p 1 h hb hlen).mono ?_;rintro _ s1 ⟨rfl,hB,dg⟩;simp only[aj,al,oneOf,QM,↓ab,hn,Tryz.results220];by_cases c:p+1<=8*D.length
 ·have ht:takes D p 1:=⟨by omega,by omega,by omega⟩;rw[b8 ht] at hB;refine⟨?_,fun _=>hB,dg⟩;unfold qF;rw[b8 ht,b8 c];show Value.int .i64 ((bY D p 1:ao):bw)=_;rw[HM]
 have ht:¬takes D p 1:=fun h=>c (by have:=h.2.2;omega)
 refine⟨?_,fun h=>absurd h c,dg⟩;unfold qF;rw[b5 ht,b5 c]
theorem ZB:br aC 217=some 16:=by kernel_rfl
theorem PN:br aC 134=some 1:=by kernel_rfl
theorem PO:bU aC 134=some false:=by kernel_rfl
theorem bB:br aC 219=some 17:=by kernel_rfl
theorem dy:bU aC 219=some true:=by kernel_rfl
theorem afB:aC.underlying 217=some (.array 16 3):=Tryz.underlying217
theorem Vs (i o c:ao):ay aC 219 (.pointer (some ⟨i,o,some c⟩)) 0=some (.pointer (some ⟨i,o+0,some c⟩)):=by
 unfold ay;rw[dw];simp[ZB]
theorem PQ (i o c:ao):ay aC 219 (.pointer (some ⟨i,o,some c⟩)) 1=some (.pointer (some ⟨i,o+16,some c⟩)):=by
 unfold ay;rw[dw];simp[PN]
def bC (C:a8 ao)(sv:bk):a8 bk:=((List.range 16).map fun n=>Value.int .i64 ((cn C n:ao):bw))++[sv]
theorem aq (C:a8 ao)(sv:bk):(bC C sv).length=17:=by simp[bC]
theorem pL (C:a8 ao)(sv:bk){n:ao}(h:n<16):(bC C sv).getD n undef= .int .i64 ((cn C n:ao):bw):=by
 unfold bC;rw[af,ch (by simpa using h),List.getElem?_map,List.getElem?_range h];rfl
theorem vh (C:a8 ao)(sv:bk):(bC C sv).getD 16 undef=sv:=by simp[bC,af]
def B9 (jx ic:ao)(s:au)(sv:bk)(C:a8 ao):Prop:=aU s 1 sv (dp C 15).length (bm (dp C 15))/\∀i,aI sv=some i->i<s.next/\i≠jx/\i≠ic
theorem N5 {s s' :au}{z:ao}{v:bk}{n:ao}{L:a8 bk}(h:aU s z v n L)(hn:s.next<=s'.next)(hs:∀i,aI v=some i->i<s.next->s'.heap.get i=s.heap.get i):aU s' z v n L:=by
 cases h with
 |nil=>exact .nil
 |bare i off=>exact .bare i off
 |of i off n c b l hi hb hz hl hc hlen eO ht=>
  refine .of i off _ c b _ (bq hi hn) ?_ hz hl hc hlen eO ht;simp only[au.bL,hs i rfl hi];exact hb
theorem B9.to {jx ic:ao}{s s' :au}{sv:bk}{C:a8 ao}(h:B9 jx ic s sv C)(k:eZ jx ic s s'):B9 jx ic s' sv C:=
 ⟨N5 h.1 k.next (fun i hi hl=>k.get i hl (h.2 i hi).2.1 (h.2 i hi).2.2),fun i hi=>⟨bq (h.2 i hi).1 k.next,(h.2 i hi).2⟩⟩
def afC (base jx ic:ao)(D:a8 b4)(s:au)(v:bk)(s' :au):b7 ao (ao×ao)->Prop
 | .ok (x,q)=>v= .tuple #[.int .i64 (x:ao),.int .i64 0]/\jO base s' jx ic D q/\eZ jx ic s s'
 | .error e=>0<e/\v= .tuple #[.int .i64 0,.int .i64 (e:ao)]/\eZ jx ic s s'
theorem EU {lib:aD}(hL:Jm lib)(base:ao)(s:au)(jx ic:ao)(D:a8 b4)(p:ao)(h:jO base s jx ic D p)(hb:base<=s.next)(hlen:D.length<=4000000)(C:a8 ao)(sv:bk)(hC:B9 jx ic s sv C)(hCl:C.length<=1000):
  Runs aC lib 215 [rQ jx,.agg (bC C sv).toArray] s fun v s' =>afC base jx ic D s v s' (sym D C p):=by
 refine Runs.enter 54 Tryz.func215 rfl (hL _ rfl) rfl rfl ?_;intro f hn hf;have h0:f.get 0=rQ jx:=hf 0;have h1:f.get 1= .agg (bC C sv).toArray:=hf 1;clear hf;simp only[aj,QM,↓ab,hn,h1];refine aA ?_;intro s1 TB aY gG;obtain⟨jc,ZC⟩:∃j,j=s.next:=⟨_,rfl⟩
 rw[<-ZC] at TB;have yf:=aq C sv;have h1B:eZ jx ic s s1:=⟨aY.next,fun i hi _ _=>aY.get i hi⟩;have hC1:=hC.to h1B;have ajN:(2:ao)^15=32768:=by decide
 have Lo:=HW C;simp only[aj,QM,dc,↓ab,hn,<-ZC,yf];refine Comes.bD (fun z f t=>∃k:ao,z=15-k/\k<=15/\p+k<=8*D.length/\EF D C p (15-k) k=sym D C p/\fst C k+cn C k<=hi D p k/\jO base t jx ic D (p+k)/\eZ jx ic s1 t/\az t jc (bC C sv)/\B9 jx ic t sv C/\f.n=54/\f.get 0=rQ jx/\f.get 3= .pointer (some ⟨jc,0,some 18⟩)/\f.get 6= .int .i64 (hi D p k:ao)/\f.get 7= .int .i64 ((fst C k+cn C k:ao):bw)/\f.get 8= .int .i64 ((dp C k).length:ao)/\f.get 9= .int .i64 ((k:bw)+1))
  (fun z f t=>(z= .ret/\f.n=54/\∃v e:bk,f.get 4=v/\f.get 5=e/\afC base jx ic D s (.tuple #[v,e]) t (sym D C p))\/(z= .exit 0/\f.n=54/\sym D C p= .error 4/\eZ jx ic s t))
  ⟨0,rfl,by omega,h.le,rfl,by simp[fst,cn,hi],h.keeps hb aY,eZ.refl _ _ _,TB,hC1,by simp only[ag,hn],by simp only[aa,↓ab,WP,h0],by simp only[aa,↓ab,WP],by simp only[aa,↓ab,WP];rfl,by simp only[aa,↓ab,WP];rfl,by simp only[aa,↓ab,WP];rfl,by simp only[aa,↓ab];rfl⟩ ?_ ?_
 ·have hjx:=h.lt;clear hn h0 h1 f TB h hC hC1;rintro Q hQ z f t ⟨k,rfl,hk,hkD,tC,hle,hB,dg,TB,hS,hn,h0,h3,h6,h7,h8,h9⟩;by_cases afg:k<15;rotate_left
  ·obtain rfl:k=15:=by omega
   have d1:¬((15:ao):bw)+1<=15:=by omega
   simp only[aj,QM,↓ab,hn,h9,a0 d1];exact hQ _ _ _ (.inr ⟨rfl,by simp only[ag,hn],tC.symm,h1B.trans dg⟩)
  have d1:(k:bw)+1<=15:=by omega
  have hkp:2^k<=2^15:=dt (by omega) (by omega);have hhl:=Py D p k;rw[show 15-k=(15-(k+1))+1 by omega,EF] at tC;have zC:base<=t.next:=by have:=dg.next;omega
  simp only[aj,ak,ad,QM,WP,↓ab,hn,h0,h9,bz d1];refine(Vr hL base t jx ic D (p+k) hB zC hlen).mono ?_;rintro _ t1 ⟨rfl,ua,mZ⟩;have B0:=h1B.trans (dg.trans mZ);by_cases gw:p+(k+1)<=8*D.length;rotate_left
  ·rw[b5 gw] at tC;have d2:(-1:bw)<0:=by decide
   rw[b5 (show¬p+k+1<=8*D.length by omega)];simp only[aj,QM,↓ab,hn,bz d2];refine hQ _ _ _ (.inl ⟨rfl,by simp only[ag,hn],_,_,by simp only[aa,↓ab,WP];rfl,by simp only[aa,↓ab];rfl,?_⟩);rw[<-tC];exact⟨by decide,rfl,B0⟩
  rw[b8 gw] at tC;have ua:=ua gw;rw[b8 (show p+k+1<=8*D.length by omega)];have m3:=qC D (p+k);have d2:¬((bit D (p+k):ao):bw)<0:=by omega
  have apC:jc<t1.next:=by have:=dg.next;have:=mZ.next;omega
  have xz:az t1 jc (bC C sv):=by
   obtain⟨i1,low,z,i2,i3⟩:=TB;exact⟨bq i1 mZ.next,low,z,by simp only[au.bL,mZ.get jc i1 (by omega) (by omega)];exact i2,i3⟩
  have V7:=hS.to mZ;have oG:=X4 aC 3 .u64 (x:=hi D p k) (by omega);have oh:=Zo (x:=hi D p k) (b:=bit D (p+k)) (by omega) m3;have ehi:2*hi D p k+bit D (p+k)=hi D p (k+1):=rfl;rw[ehi] at oh;have hsf:=X4 aC 3 .u64 (x:=fst C k+cn C k) (by omega);have aj9:(fst C k+cn C k)*2^1=fst C (k+1):=by simp only[fst];omega
  rw[aj9] at hsf;have L3:fst C (k+1)<=hi D p (k+1):=by rw[<-ehi];simp only[fst];omega
  have e1:((hi D p (k+1):ao):bw)-((fst C (k+1):ao):bw)=((hi D p (k+1)-fst C (k+1):ao):bw):=by omega
  have apD:=Py D p (k+1);have apE:2^(k+1)<=2^15:=dt (by omega) (by omega);have XA:cn C (k+1)=C.count (k+1):=abQ C (by omega);have ek:((k:bw)+1).toNat=k+1:=by omega
  have ik:=PM (P:=aC) afB aV jc 0 18 (x:=(k:bw)+1) (by omega) (by omega) .i64;rw[ek,Nat.zero_add] at ik;have lk:=xz.load (P:=aC) aP (off:=k+1) (c:=18) (by rw[yf]) (by rw[yf];omega);rw[pL C sv (by omega)] at lk;have lsv:=xz.load (P:=aC) PO (off:=16) (c:=18) (by rw[yf]) (by rw[yf];omega);rw[vh] at lsv;have hfl:=Lo 15;have hfk:=Lo k;by_cases X6:wH D C p (k+1)
  ·rw[b8 X6] at tC;have d3:((hi D p (k+1)-fst C (k+1):ao):bw)<((cn C (k+1):ao):bw):=by have:=X6.2;omega
   obtain⟨q1,q2⟩:=wI C 15 (k+1) (by omega) (by omega) (hi D p (k+1)-fst C (k+1)) (by have:=X6.2;omega);rw[dv] at q1 q2;have e2:((dp C k).length:bw)+((hi D p (k+1):ao):bw)-((fst C (k+1):ao):bw)=(((dp C k).length+(hi D p (k+1)-fst C (k+1)):ao):bw):=by omega
   have is:=V7.1.indexAddr (P:=aC) (k:= .i64) (x:=(((dp C k).length+(hi D p (k+1)-fst C (k+1)):ao):bw)) dS aV (by omega) (by omega);rw[cc] at is;have ls:=V7.1.cu (P:=aC) aP q1;rw[fm q1,q2] at ls;simp(disch:=omega)only[aj,QM,WP,↓ab,hn,h3,h6,h7,h8,h9,a0 d2,oG,kd,oh,hsf,aB,e1,Vs,PQ,ik,lk,bz d3,lsv,e2,is,ls];refine hQ _ _ _ (.inl ⟨rfl,by simp only[ag,hn],_,_,by simp only[aa,↓ab,WP];rfl,by simp only[aa,↓ab];rfl,?_⟩);rw[<-tC];exact⟨rfl,ua,B0⟩
  rw[b5 X6] at tC;have ahJ:cn C (k+1)<=hi D p (k+1)-fst C (k+1):=by
   rw[XA];rcases Nat.lt_or_ge (hi D p (k+1)-fst C (k+1)) (C.count (k+1)) with c|c
   ·exact absurd ⟨L3,by omega⟩ X6
   exact c
  have d3:¬((hi D p (k+1)-fst C (k+1):ao):bw)<((cn C (k+1):ao):bw):=by omega
  have e2:((fst C (k+1):ao):bw)+((cn C (k+1):ao):bw)=((fst C (k+1)+cn C (k+1):ao):bw):=by omega
  have To:=HV C k;have e3:(((dp C k).length:ao):bw)+((cn C (k+1):ao):bw)=(((dp C (k+1)).length:ao):bw):=by omega
  have apF:=Lo (k+1);simp(disch:=omega)only[aj,QM,WP,↓ab,hn,h3,h6,h7,h8,h9,a0 d2,oG,kd,oh,hsf,aB,e1,Vs,ik,lk,a0 d3,e2,e3];exact ar (15-(k+1)) (by omega) ⟨k+1,rfl,by omega,by omega,tC,by omega,ua,dg.trans mZ,xz,V7,by simp only[aa,ag,↓ab,WP,hn,h0,h3,en];rfl⟩
 clear hn h0 h1 f;rintro z f t (⟨rfl,hn,v,e,h4,h5,hR⟩|⟨rfl,hn,tC,dg⟩)
 ·simp only[aj,al,oneOf,QM,↓ab,hn,h4,h5,ed];exact hR
 simp only[aj,al,oneOf,QM,WP,↓ab,hn,ed];rw[tC];exact⟨by decide,rfl,dg⟩
theorem gC:bU aC 177=some false:=by kernel_rfl
theorem Cu:br aC 177=some 1:=by kernel_rfl
theorem lG (i o c:ao):ay aC 180 (.pointer (some ⟨i,o,some c⟩)) 0=some (.pointer (some ⟨i,o+0,some c⟩)):=by
 unfold ay;rw[c7];simp[Cu]
theorem ZD (i o c:ao):ay aC 180 (.pointer (some ⟨i,o,some c⟩)) 1=some (.pointer (some ⟨i,o+1,some c⟩)):=by
 unfold ay;rw[c7];simp[aV]
theorem BD (i o c:ao):ay aC 180 (.pointer (some ⟨i,o,some c⟩)) 2=some (.pointer (some ⟨i,o+2,some c⟩)):=by
 unfold ay;rw[c7];simp[iA]
abbrev lZ (j:ao):bk:= .pointer (some ⟨j,0,some 4⟩)
structure Rs (base:ao) (s:au) (jr jx ic:ao) (D:a8 b4) (p:ao) (P:a8 b4) (M:bw) (o:bk):Prop where
 bit:jO base s jx ic D p
 t:az s jr [rQ jx,.int .i64 M,o]
 own:Own s 1 o P.length (ofBytes P)
 fresh:aM base o
 nr:aI o≠some jr
 nx:aI o≠some jx
 nc:aI o≠some ic
 rx:jr≠jx
 rc:jr≠ic
 lr:base<=jr
structure vJ (jr jx ic:ao) (o:bk) (s:au) (o' :bk) (s' :au):Prop where
 next:s.next<=s'.next
 get:∀i,i<s.next->i≠jr->i≠jx->i≠ic->aI o≠some i->s'.heap.get i=s.heap.get i
 id:aI o' =aI o\/∃i,aI o' =some i/\s.next<=i
theorem vJ.refl (jr jx ic:ao)(o:bk)(s:au):vJ jr jx ic o s o s:=⟨c8 _,fun _ _ _ _ _ _=>rfl,.inl rfl⟩
theorem vJ.trans {jr jx ic:ao}{o o' o'' :bk}{s s' Fq:au}(h:vJ jr jx ic o s o' s')(k:vJ jr jx ic o' s' o'' Fq):vJ jr jx ic o s o'' Fq:=by
 refine⟨cd h.next k.next,fun i hi h1 h2 h4 h3=> ?_,?_⟩
 ·rw[k.get i (bq hi h.next) h1 h2 h4 ?_,h.get i hi h1 h2 h4 h3];rcases h.id with e|⟨q,e,hq⟩
  ·rw[e];exact h3
  rw[e];intro q2;injection q2 with q2;omega
 rcases k.id with e|⟨q,e,hq⟩
 ·rcases h.id with e2|⟨q,e2,hq⟩
  ·exact .inl (by rw[e,e2])
  exact .inr ⟨q,by rw[e,e2],hq⟩
 exact .inr ⟨q,e,cd h.next hq⟩
theorem vJ.stay {jr jx ic base:ao}{o o' :bk}{s s' :au}(h:vJ jr jx ic o s o' s')(h1:base<=jr)(h2:base<=jx)(h4:base<=ic)(h3:aM base o)(hb:base<=s.next):aw base s s' :=
 ⟨h.next,fun i hi=>h.get i (by omega) (by omega) (by omega) (by omega) (fun e=>by have:=h3 i e;omega)⟩
theorem qH {jr jx ic:ao}{o:bk}{s s' :au}(h:eZ jx ic s s'):vJ jr jx ic o s o s' :=⟨h.next,fun i hi _ h2 h4 _=>h.get i hi h2 h4,.inl rfl⟩
theorem vJ.kept {jr jx ic:ao}{o o' :bk}{s t t' :au}(h:vJ jr jx ic o s o' t)(k:aw t.next t t'):vJ jr jx ic o s o' t' :=
 ⟨cd h.next k.next,fun i hi h1 h2 h4 h3=>(k.get i (bq hi h.next)).trans (h.get i hi h1 h2 h4 h3),h.id⟩
theorem gX {s s' :au}{i:ao}{cs:a8 bk}(h:az s i cs)(hn:s.next<=s'.next)(hg:s'.heap.get i=s.heap.get i):az s' i cs:=by
 obtain⟨i1,low,z,i2,i3⟩:=h;exact⟨bq i1 hn,low,z,by simp only[au.bL,hg];exact i2,i3⟩
theorem EV {s s' :au}{z:ao}{v:bk}{n:ao}{L:a8 bk}(h:Own s z v n L)(hn:s.next<=s'.next)(hs:∀i,aI v=some i->i<s.next->s'.heap.get i=s.heap.get i):Own s' z v n L:=by
 cases h with
 |nil=>exact .nil
 |of i n low l hi hb hl hlen=>
  refine .of i _ low _ (bq hi hn) ?_ hl hlen;simp only[au.bL,hs i rfl hi];exact hb
theorem Rs.bits {base:ao}{s s' :au}{jr jx ic:ao}{D P:a8 b4}{p p' :ao}{M:bw}{o:bk}(h:Rs base s jr jx ic D p P M o)(hB:jO base s' jx ic D p')(k:eZ jx ic s s'):Rs base s' jr jx ic D p' P M o:=
 ⟨hB,gX h.t k.next (k.get jr h.t.lt h.rx h.rc),EV h.own k.next (fun i hi hl=>k.get i hl (fun e=>h.nx (by rw[hi,e])) (fun e=>h.nc (by rw[hi,e]))),h.fresh,h.nr,h.nx,h.nc,h.rx,h.rc,h.lr⟩
theorem Rs.keeps {base:ao}{s s' :au}{jr jx ic:ao}{D P:a8 b4}{p:ao}{M:bw}{o:bk}(h:Rs base s jr jx ic D p P M o)(hb:base<=s.next)(k:aw s.next s s'):Rs base s' jr jx ic D p P M o:=
 ⟨h.bit.keeps hb k,h.t.keeps k,h.own.keeps k,h.fresh,h.nr,h.nx,h.nc,h.rx,h.rc,h.lr⟩
theorem B9.rto {jr jx ic:ao}{o o' :bk}{s s' :au}{sv:bk}{C:a8 ao}(h:B9 jx ic s sv C)(hr:∀i,aI sv=some i->i≠jr/\aI o≠some i)(k:vJ jr jx ic o s o' s'):B9 jx ic s' sv C:=
 ⟨N5 h.1 k.next (fun i hi hl=>k.get i hl (hr i hi).1 (h.2 i hi).2.1 (h.2 i hi).2.2 (hr i hi).2),fun i hi=>⟨bq (h.2 i hi).1 k.next,(h.2 i hi).2⟩⟩
def Jn (base jr jx ic:ao)(D:a8 b4)(M:bw)(o:bk)(s:au)(v:bk)(s' :au):b7 ao (ao×a8 b4)->Prop
 | .ok (q,P)=>v= .int .i64 0/\∃o',Rs base s' jr jx ic D q P M o' /\vJ jr jx ic o s o' s'
 | .error e=>0<e/\v= .int .i64 (e:ao)/\aw base s s'
theorem EW {lib:aD}(hL:Jm lib)(base:ao)(s:au)(jr jx ic:ao)(D P:a8 b4)(p m:ao)(M:bw)(hM:m=M.toNat)(c:b4)(o:bk)(h:Rs base s jr jx ic D p P M o)(hb:base<=s.next)(Wq:P.length<=100000000):
  Runs aC lib 212 [lZ jr,.int .u8 c.toNat] s fun v s' =>Jn base jr jx ic D M o s v s' (if m<=P.length then .error 7 else .ok (p,P++[c])):=by
 have m3:=h.bit.lt;refine Runs.enter 25 Tryz.func212 rfl (hL _ rfl) rfl rfl ?_;intro f hn hf;have h0:f.get 0=lZ jr:=hf 0;have h1:f.get 1= .int .u8 c.toNat:=hf 1;clear hf;have r0:=h.t.load (P:=aC) gC (off:=0) (c:=4) rfl (by simp);have r1:=h.t.load (P:=aC) aP (off:=1) (c:=4) rfl (by simp);have r2:=h.t.load (P:=aC) gJ (off:=2) (c:=4) rfl (by simp);by_cases cm:m<=P.length
 ·have c1:(P.length:bw)>=M:=by omega
  simp only[aj,ak,al,oneOf,ad,QM,WP,↓ab,hn,h0,ZD,BD,r1,r2,h.own.aL.aQ cx,h.own.self,bz c1,ee];rw[b8 cm];exact⟨by decide,rfl,aw.refl _ _⟩
 have c1:¬(P.length:bw)>=M:=by omega
 simp only[aj,ak,ad,ae,QM,WP,↓ab,hn,h0,h1,ZD,BD,r1,r2,h.own.aL.aQ cx,h.own.self,a0 c1,gI cx cO rU];refine cj cx cO sm rU rfl h.own (by simp only[aa,↓ab,WP]) (by decide) (by simp only[ag,hn];decide) (by simp only[ag,hn];decide) (by rfl) (by decide) rfl (by omega) (by omega) h.fresh hb ?_;intro bs o2 s2 iV ig aR dK sd;have cE:∀j,j<s.next->aI o≠some j->aI o2≠some j:=fun j hj cE=>by
  rcases sd with e|⟨i,e,hi⟩
  ·rw[e];exact cE
  rw[e];intro q;injection q with q;omega
 have hnr:=cE jr h.t.lt h.nr;have vR:=cE jx m3.1 h.nx;have hnc:=cE ic m3.2.1 h.nc;have fe:=h.t.turns dK h.nr;simp only[aj,QM,WP,↓ab,hn,BD];refine ba iA fe rfl (by simp) iV.aL.aT ?_;intro s3 kP oX iT;simp only[aj,al,oneOf,QM,↓ab,hn,ee];rw[b5 cm];have bA:=aR.trans (aw.aK oX iT h.lr);obtain⟨q,now,left,hB,h7⟩:=h.bit;have JF:jO base s3 jx ic D p:=by
  have dr:base<=s2.next:=cd hb aR.next;have c2:=(hB.c.turns hb h.fresh dK h.nc).turns dr (dN h.lr) (bG.aK (i:=jr) (o:=0) (c:=some 3) oX iT) (fv h.rc);exact⟨q,now,left,⟨c2,(hB.t.turns dK h.nx).turns (bG.aK (i:=jr) (o:=0) (c:=none) oX iT) (fun e=>h.rx (by injection e)),hB.e,hB.l8,hB.r,hB.now,hB.lx,hB.lc,hB.ne⟩,h7⟩
 refine⟨rfl,o2,⟨JF,kP,?_,ig,hnr,vR,hnc,h.rx,h.rc,h.lr⟩,⟨by have:=dK.next;omega,fun i hi h1 _ _ h3=>by rw[iT i h1,dK.get i hi h3],sd⟩⟩;rw[ct,cg];exact iV.aK oX iT hnr
end Go.Proofs.YtdfjfncifneocaaGreat