import Derived.Test.YtgpmffbleaphkaaGreatNfE
open List renaming getD_eq_getElem?_getD->Se,replicate->Si,length_append->St,getElem?_append_left->Sw,length_replicate->SB,length_take->SC,length_cons->SD,getElem?_append_right->SG,getElem?_take_of_lt->SJ,getElem?_replicate->SK,length_drop->SQ,length_nil->SR
open _root_ renaming Nat->Sf,List->Sg,Int->Sl,eq_true->Sm,UInt8->Sn,if_neg->So,Except->Sp,if_pos->Sq,decide_eq_false->Sx,decide_eq_true->Sz,reduceIte->SF,of_decide_eq_true->SP
open Go.Proofs.Tryz renaming prog->Sh,results139->Sy,underlying22->SA,underlying196->SH,underlying210->SO,results166->SS,results180->SU,results177->SV,results93->SW
open Go renaming Value->Sj,Program->SX
open Nat renaming lt_of_lt_of_le->Sk,le_trans->Ss,reduceEqDiff->Su,reduceLT->Sv,mul_one->SE,le_refl->SI,zero_le->SL,pow_le_pow_right->SM,add_sub_cancel->SN,sub_self->SY
open Int renaming toNat_natCast->Sr
set_option maxHeartbeats 16000000
set_option linter.unusedSimpArgs false
set_option linter.unusedVariables false
set_option maxRecDepth 100000
namespace Go.Cl.Fx
theorem cr.va {a b:Sf}{o y:Sj}{s t c:J}(h:cr a b o s o t)(k:aF y t c)(e:∀i,ak y=some i->s.Y<=i):cr a b o s o c:=
 ⟨Ss h.Y k.Y,fun i d f g j=>(k.N i (Sk d h.Y) (fun l=>ag (e i l))).trans (h.N i d f g j),.inl rfl⟩
theorem cr.hX {a b:Sf}{o:Sj}{s t c:J}(h:cr a b o s o t)(k:ad t.Y t c):cr a b o s o c:=
 ⟨Ss h.Y k.Y,fun i d e f g=>(k.N i (Sk d h.Y)).trans (h.N i d e f g),.inl rfl⟩
end Go.Cl.Fx
namespace Go.Cl
namespace LB
theorem RU {P:SX}{c:bg}{A:Sf->Bool}{g:Sf}{d r:Sg Oper}{f:Sf}{h:an}{T:J}{j:Option Tmp}{Q:an->J->Prop}{e:TypeId}(o:bc P e=some 1){v:Sj}{n:Sf}{l:Sg Sj}(p:ao T 1 v n l){k:Sf}(q:k<n){w:Sj}(s:aN w=true)(t:g≠0->∀i,ak v=some i->A i=false)(u:∀i,A i=true->i<T.Y)
  (K:∀a,ao a 1 v n (l.set k w)->aF v T a->jd P c A (g-1) d r f h j Q undef a):j6 P c A g d r f h j T Q (gu (fp P T e (bM 1 v k) w)):=by
 have⟨x,y,z,b⟩:=p.u o q s;rw[y,lV,rb];exact⟨fun B=>⟨b.Y,fun i m=>b.N i (u i m) (fun e=>by have:=t B i e;rw[m] at this;cases this)⟩,K x z b⟩
end LB
end Go.Cl
namespace Go.Cl.Nf
open Go.Cl.Fx Go.Cl.Sto
theorem yd {P:SX}{a:bg}{b:Sg Oper}{o:Oper}{r:Sg Oper}{f:an}{s:J}{c:Code}{Q:dw->an->J->Prop}{d:Bool}(e:an->J->Prop)(l:∀g:dw->an->J->Prop,(∀h i,e h i->g .b2 h i)->kH P a b o r f s (ja P a c g .b2) d)(m:∀j k,e j k->Q .b2 j k):kH P a b o r f s (ja P a c Q .b2) d:=l Q m
theorem Be {P:SX}{a:bg}{b c:Code}{f:an}{s:J}{Q:dw->an->J->Prop}{d:Bool}(e:an->J->Prop)(l:∀g:dw->an->J->Prop,(∀h i,e h i->g .b2 h i)->nb P a b c f s g d)(m:∀j k,e j k->Q .b2 j k):nb P a b c f s Q d:=l Q m
def k2 (x:Sp Sf Sf)(c:Prop)[Decidable c]:Sp Sf Sf:=match x with| .ok p=>if c then .error 4 else .ok p| .error e=> .error e
theorem Jc (e:Sf)(c:Prop)[Decidable c]:k2 (.error e) c= .error e:=rfl
theorem pg (p:Sf){c:Prop}[Decidable c](h:c):k2 (.ok p) c= .error 4:=Sq h
theorem ph (p:Sf){c:Prop}[Decidable c](h:¬c):k2 (.ok p) c= .ok p:=So h
theorem RV (D:Sg Sn)(e n:Sf):hh D (.error e) n= .error e:=rfl
theorem nz {D:Sg Sn}{p n:Sf}(h:p+n<=8*D.length):fz D (.ok p) n=bZ D p n:=Sq h
theorem mP {D:Sg Sn}{p n:Sf}(h:p+n<=8*D.length):hh D (.ok p) n= .ok (p+n):=Sq h
theorem mQ {D:Sg Sn}{p n:Sf}(h:¬p+n<=8*D.length):hh D (.ok p) n= .error 2:=So h
theorem RW {D:Sg Sn}{p e f k:Sf}{l h m i j:Sp Sf Sf}(n:e=fz D (.ok p) 5)(g:l=hh D (.ok p) 5)(d:h=k2 l (29<e))(o:f=fz D h 5)(c:m=hh D h 5)(b:i=k2 m (29<f))(q:k=fz D i 4)(a:j=hh D i 4):
  (mf D p= .ok (e+257,f+1,k+4)/\j= .ok (p+14)/\e<=29/\f<=29)\/(∃r,mf D p= .error r/\j= .error r):=by
 unfold mf;by_cases e:p+5<=8*D.length;rotate_left
 ·rw[mQ e] at g;subst g d c b a;exact .inr ⟨2,by rw[hH e],rfl⟩
 rw[nz e] at n;rw[mP e] at g;subst n g;rw[gp e];dsimp only;by_cases e:29<bZ D p 5
 ·rw[pg _ e] at d;subst d c b a;exact .inr ⟨4,by rw[Sq e],rfl⟩
 rw[ph _ e] at d;subst d;rw[So e];by_cases d:p+5+5<=8*D.length;rotate_left
 ·rw[mQ d] at c;subst c b a;exact .inr ⟨2,by rw[hH d],rfl⟩
 rw[nz d] at o;rw[mP d] at c;subst o c;rw[gp d];dsimp only;by_cases c:29<bZ D (p+5) 5
 ·rw[pg _ c] at b;subst b a;exact .inr ⟨4,by rw[Sq c],rfl⟩
 rw[ph _ c] at b;subst b;rw[So c];by_cases b:p+5+5+4<=8*D.length;rotate_left
 ·rw[mQ b] at a;exact .inr ⟨2,by rw[show p+10=p+5+5 from Z,hH b],a⟩
 rw[nz b] at q;rw[mP b] at a;rw[show p+10=p+5+5 from Z,gp b];exact .inl ⟨by rw[q],by rw[a],Z,Z⟩
def ot (D:Sg Sn):Sg Sf->Sp Sf Sf->Sg Sf->Sp Sf Sf×Sg Sf
 |[],x,o=>(x,o)
 |i::r,x,o=>ot D r (hh D x 3) (o.set i (fz D x 3))
theorem Bf (D:Sg Sn)(e:Sf):∀r o,(ot D r (.error e) o).1= .error e
 |[],o=>rfl
 |i::r,o=>Bf D e r _
theorem Jd (D:Sg Sn):∀(r:Sg Sf) (p:Sf) (o:Sg Sf),(∃a q,lG D r p o= .ok (a,q)/\ot D r (.ok p) o=(.ok q,a))\/(∃e,lG D r p o= .error e/\(ot D r (.ok p) o).1= .error e)
 |[],p,o=> .inl ⟨o,p,rfl,rfl⟩
 |i::r,p,o=>by
  unfold lG ot;by_cases c:p+3<=8*D.length
  ·rw[gp c,mP c,nz c];exact Jd D r (p+3) _
  rw[hH c,mQ c];exact .inr ⟨2,rfl,Bf D 2 r _⟩
def k3 (D:Sg Sn)(s:Sf)(x:Sp Sf Sf)(l:Sg Sf):Sf×Sf×Sp Sf Sf:=
 match x with
 | .error e=>(s,1,.error e)
 | .ok q=>if s=16 then(if l.length=0 then(s,1,.error 4) else(l.getD (l.length-1) 0,3+fz D (.ok q) 2,hh D (.ok q) 2))
  else if s=17 then(0,3+fz D (.ok q) 3,hh D (.ok q) 3)
  else if s=18 then(0,11+fz D (.ok q) 7,hh D (.ok q) 7)
  else(s,1,.ok q)
def k4 (y:Sp Sf (Sf×Sf)):Sf×Sp Sf Sf:=match y with| .ok (s,q)=>(s,.ok q)| .error e=>(0,.error e)
def lJ {a b:Type}(x:Sp Sf a)(f:a->Sp Sf b):Sp Sf b:=match x with| .ok a=>f a| .error e=> .error e
theorem RX {D:Sg Sn}{d:Sg Sf}{M k p:Sf}{l:Sg Sf}{b:Sf×Sf×Sp Sf Sf}{x:Sp Sf Sf}(e:¬M<=l.length)(a:b=k3 D (k4 (dS D d p)).1 (k4 (dS D d p)).2 l)(c:x=k2 b.2.2 (M<l.length+b.2.1)):
  hI D d M (k+1) p l=lJ x fun q=>hI D d M k q (l++Si b.2.1 b.1):=by
 rw[hI,So e];cases e:dS D d p with
 |error f=>
  rw[e] at a;have a:b=(0,1,.error f):=a;subst a c;rfl
 |ok y=>
  have⟨s,q⟩:=y;rw[e] at a;dsimp only;have a:b=k3 D s (.ok q) l:=a;unfold mN;unfold k3 at a;dsimp only at a;have e:∀(v n r:Sf),b=(v,n,.ok r)->(match (Except.ok (v,n,r):Sp Sf (Sf×Sf×Sf)) with| .error f=>(.error f:Sp Sf (Sg Sf×Sf))| .ok (f,n,r)=>if M<l.length+n then .error 4 else hI D d M k r (l++Si n f))=lJ x fun f=>hI D d M k f (l++Si b.2.1 b.1):=by
   intro v n r f;subst f;by_cases f:M<l.length+n
   ·have c:x= .error 4:=by rw[c];exact pg _ f
    subst c;dsimp only;rw[Sq f];rfl
   have c:x= .ok r:=by rw[c];exact ph _ f
   subst c;dsimp only;rw[So f];rfl
  have f:∀(v n g:Sf),b=(v,n,.error g)->(.error g:Sp Sf (Sg Sf×Sf))=lJ x fun h=>hI D d M k h (l++Si b.2.1 b.1):=by
   intro v n b h;subst h;have c:x= .error b:=c;subst c;rfl
  by_cases c:s=16
  ·rw[Sq c] at a|-
   by_cases b:l.length=0
   ·rw[Sq b] at a|-
    exact f _ _ _ a
   rw[So b] at a|-
   by_cases b:q+2<=8*D.length
   ·rw[nz b,mP b] at a;rw[gp b];exact e _ _ _ a
   rw[mQ b] at a;rw[hH b];exact f _ _ _ a
  rw[So c] at a|-
  by_cases c:s=17
  ·rw[Sq c] at a|-
   by_cases b:q+3<=8*D.length
   ·rw[nz b,mP b] at a;rw[gp b];exact e _ _ _ a
   rw[mQ b] at a;rw[hH b];exact f _ _ _ a
  rw[So c] at a|-
  by_cases c:s=18
  ·rw[Sq c] at a|-
   by_cases b:q+7<=8*D.length
   ·rw[nz b,mP b] at a;rw[gp b];exact e _ _ _ a
   rw[mQ b] at a;rw[hH b];exact f _ _ _ a
  rw[So c] at a|-
  exact e _ _ _ a
theorem RY {l r:Sg Sf}{i:Sf}:(l++r).getD i 0=if i<l.length then l.getD i 0 else r.getD (i-l.length) 0:=by
 simp only[Se];by_cases c:i<l.length
 ·rw[Sq c,Sw c]
 rw[So c,SG Z]
theorem Je {l:Sg Sf}{n v:Sf}(h:jo l)(a:v<=15):jo (l++Si n v):=by
 intro i;rw[RY];split
 ·exact h i
 rw[Se,SK];split
 ·exact a
 exact SL _
theorem Jf {l:Sg Sf}(h:jo l)(n:Sf):jo (l.take n):=by
 intro i;by_cases c:i<n
 ·have:(l.take n).getD i 0=l.getD i 0:=by rw[Se,SJ c,Se]
  rw[this];exact h i
 rw[Se,List.getElem?_eq_none (by rw[SC];omega)];exact SL _
theorem Jg {l:Sg Sf}(h:jo l)(n:Sf):jo (l.drop n):=by
 intro i;have:(l.drop n).getD i 0=l.getD (n+i) 0:=by rw[Se,List.getElem?_drop,Se]
 rw[this];exact h _
theorem RZ {D:Sg Sn}{s:Sf}{x:Sp Sf Sf}{l:Sg Sf}(a:s<=18)(b:jo l):(k3 D s x l).2.1<=200/\(∀q,(k3 D s x l).2.2= .ok q->(k3 D s x l).1<=15)/\(k3 D s x l).1<=18:=by
 cases x with
 |error e=>exact⟨by simp[k3],fun q h=>by simp[k3] at h,a⟩
 |ok q=>
  unfold k3;dsimp only;have c:=oq D (.ok q) 2;have c:=oq D (.ok q) 3;have c:=oq D (.ok q) 7;split
  ·split
   ·exact⟨aA,fun q h=>by simp at h,a⟩
   exact⟨by dsimp only;omega,fun _ _=>b _,by dsimp only;have:=b (l.length-1);omega⟩
  split
  ·exact⟨by dsimp only;omega,fun _ _=>aA,aA⟩
  split
  ·exact⟨by dsimp only;omega,fun _ _=>aA,aA⟩
  exact⟨aA,fun _ _=>by dsimp only;omega,a⟩
theorem R0 {D:Sg Sn}{s q a:Sf}{l:Sg Sf}(h:(k3 D s (.ok q) l).2.2= .ok a):q<=a:=by
 have b:∀n,hh D (.ok q) n= .ok a->q<=a:=fun n h=>by
  by_cases c:q+n<=8*D.length
  ·rw[mP c] at h;injection h with h;omega
  rw[mQ c] at h;cases h
 unfold k3 at h;dsimp only at h;split at h
 ·split at h
  ·cases h
  exact b _ h
 split at h
 ·exact b _ h
 split at h
 ·exact b _ h
 injection h with h;omega
theorem R1 {x:Sp Sf Sf}{c:Prop}[Decidable c]{q:Sf}(h:k2 x c= .ok q):x= .ok q/\¬c:=by
 cases x with
 |error e=>cases h
 |ok p=>
  by_cases a:c
  ·rw[pg _ a] at h;cases h
  rw[ph _ a] at h;exact⟨h,a⟩
theorem mg {a c:Type}(b:a)(f:a->Sp Sf c):lJ (.ok b) f=f b:=rfl
theorem rI {a b:Type}(e:Sf)(f:a->Sp Sf b):lJ (.error e) f= .error e:=rfl
theorem R2 {e:Sf}{D:Sg Sn}{p b f g:Sf}{a h l:Sp Sf Sf}{j:Sg Sf}{k:Sp Sf (Sg Sf×Sf)}(n:(mf D p= .ok (b+257,f+1,g+4)/\a= .ok (p+14)/\b<=29/\f<=29)\/(∃m,mf D p= .error m/\a= .error m))
  (d:ot D (ej.take (g+4)) a (Si 19 0)=(h,j)) (c:l=k2 h (¬fK j)) (i:k=lJ l fun q=>hI D j (b+257+(f+1)) e q []):
  lH e D p=lJ k fun y=>if fK (y.1.take (b+257))/\fK (y.1.drop (b+257))/\y.1.getD 256 0≠0 then .ok ((y.1.take (b+257),y.1.drop (b+257)),y.2) else .error 4:=by
 unfold lH;rcases n with ⟨a,rfl,-,-⟩|⟨l,n,rfl⟩
 ·rw[a];dsimp only;rcases Jd D (ej.take (g+4)) (p+14) (Si 19 0) with ⟨m,q,k,a⟩|⟨o,k,a⟩
  ·rw[a] at d;injection d with d j;subst d j;rw[k];dsimp only;by_cases j:fK m
   ·rw[ph _ (fun p=>p j)] at c;subst c;rw[Sq j,i,mg];cases hI D m (b+257+(f+1)) e q [] with
    |error e=>rfl
    |ok y=>rfl
   rw[pg _ j] at c;subst c;rw[So j,i];rfl
  rw[d] at a;have a:h= .error o:=a;subst a;rw[Jc] at c;subst c;rw[k,i];rfl
 have a:=Bf D l (ej.take (g+4)) (Si 19 0);rw[d] at a;have a:h= .error l:=a;subst a;rw[Jc] at c;subst c;rw[n,i];rfl
end Go.Cl.Nf
namespace Go.Proofs.YtgpmffbleaphkaaGreat
open Go.Cl Go.Cl.Rw Go.Cl.Sto Go.Cl.Fx Go.Cl.Nf
theorem Jh {A:Sf->Bool}{s:J}{z:Sf}{v:Sj}{n:Sf}{l:Sg Sj}(h:az s z v n l)(a:∀i,ak v=some i->A i=true){k:Sf}(b:k<n):LA.c4 A (some (bM z v k))=true:=by
 cases h with
 |al=>omega
 |cI=>omega
 |bu b c n d e l f g h j m o p q=>simp only[bM,LA.c4];exact a b rfl
theorem Ji (s:J):dj Sh s 47 19 [(0,I 16),(1,I 17),(2,I 18),(3,I 0),(4,I 8),(5,I 7),(6,I 9),(7,I 6),(8,I 10),(9,I 5),(10,I 11),(11,I 4),(12,I 12),(13,I 3),(14,I 13),(15,I 2),(16,I 14),(17,I 1),(18,I 15)]=cL s (bf ej) 19 1:=by
 unfold dj;rw[eH];simp only[aQ,lB];rfl
theorem eK.j {a b c:Sf}{D P:Sg Sn}{M:Sl}{f o y:Sj}{t g:J}{x:Sp Sf Sf}(h:eK a b c D P M f o t x)(k:aF y t g)(d:∀i,ak y=some i->a<=i/\i≠b/\i≠c/\ak o≠some i)(m:a<=t.Y):eK a b c D P M f o g x:=by
 have j:ak y≠some c:=fun e=>(d _ e).2.2.1 rfl
 have l:ak y≠some b:=fun e=>(d _ e).2.1 rfl
 cases x with
 |ok u=>exact⟨⟨h.1.E.j k j,h.1.G.j k l,h.1.bT.A (k.C (fun i e=>(d i e).1) m),h.1.br.j k (fun i e n=>(d i n).2.2.2 e),h.1.Q,h.1.lF,h.1.qw,h.1.U,h.1.ir,h.1.iu⟩,h.2⟩
 |error e=>
  have⟨p,q,r,s,h⟩:=h;exact⟨p,q,r,s,⟨h.E.j k j,h.G.j k l,h.k1,h.U,h.ir,h.iu⟩⟩
theorem pj {a:Sf}{t b:J}{y:Sj}{n:Sf}{L:Sg Sj}(h:ao t 1 y n L)(k:gr a t b)(c:ak y≠some a):ao b 1 y n L:=h.f k.1 k.2 c
theorem R3 {d a b:Sf}{D P:Sg Sn}{M:Sl}{e o:Sj}{s c:J}{v:Sj}{T:Sg Sf}{q:Sf}(h:Bb d a b D P M e o s v c (dS D T q)):v=I ((k4 (dS D T q)).1:Sf)/\eK d a b D P M e o c (k4 (dS D T q)).2/\cr a b o s o c:=by
 cases a:dS D T q with
 |error e=>rw[a] at h;exact h
 |ok y=>
  have⟨x,r⟩:=y;rw[a] at h;exact⟨h.1,⟨h.2.1,(pb a).2.1⟩,h.2.2⟩
theorem Jj {z a b i:Sf}{v:Sj}(h:ak (cU z v a b)=some i):ak v=some i:=by
 unfold cU at h;split at h
 ·exact h
 cases h
theorem vb (L:Sg Sf)(n:Sf):(bf L).take n=bf (L.take n):=by simp[bf,List.map_take]
theorem vc (L:Sg Sf)(n:Sf):(bf L).drop n=bf (L.drop n):=by simp[bf,List.map_drop]
theorem ye (L K:Sg Sf):bf L++bf K=bf (L++K):=by simp[bf]
def Jk (d a b:Sf)(D P:Sg Sn)(M:Sl)(i o:Sj)(s:J)(v:Sj)(c:J):Sp Sf ((Sg Sf×Sg Sf)×Sf)->Prop
 | .ok ((e,f),q)=>∃g h,v= .tuple #[g,h]/\dQ d c a b D q P M i o/\q<=8*D.length/\cr a b o s o c/\eI a b o c g e/\eI a b o c h f/\e.length<=300/\f.length<=300
 | .error e=>(∃f g,v= .tuple #[f,g])/\iR d c a b e/\cr a b o s o c
theorem R5
  (v:Sf) (R:J) (g h:Sf) (d F:Sg Sn) (Xg WG X7:Sf) (G o:Sj) (u:dQ v R g h d Xg F (WG:Sf) G o) (Z2:Xg<=8*d.length) (zaM:d.length<=100000000) (Z3:8*d.length+1<X7) (zaN:v<=R.Y):
  Runs Sh aw 139 [cH g] R fun Xm Z4=>Jk v g h d F (WG:Sf) G o R Xm Z4 (lH X7 d Xg):=by
 have Zf:∀a,ak o=some a->a<R.Y:=fun a w=>u.br.z a w
 have zaO:=u.G.n;have zaP:=u.E.n;have Zg:eK v g h d F (WG:Sf) G o R (.ok Xg):=⟨u,Z2⟩;refine Runs.ey 264 Tryz.func139 rfl fun f b c=> ?_
 refine aW b c @bP Zg.fA ((pe v R g h d F (.ok Xg) 5 _ G o Zg Z Z).b ?_);rintro _ Xy ⟨rfl,W9,Xa⟩;obtain⟨r,Zh⟩:∃WX,WX=fz d (.ok Xg) 5:=⟨_,rfl⟩
 obtain⟨X8,Zi⟩:∃T,T=hh d (.ok Xg) 5:=⟨_,rfl⟩
 have Z5:=oq d (.ok Xg) 5;rw[<-Zh] at Z5|-
 rw[<-Zi] at W9;have Xn:((r:Sf):Sl)+257=((r+257:Sf):Sl):=Z;refine ch b c Xn @bP @cq W9.fA W9.mO (yd (fun H t=>H.e=264/\H.N 0=cH g/\H.N 4=I ((r+257:Sf):Sl)/\eK v g h d F (WG:Sf) G o t (k2 X8 (29<r))/\gr h R t) ?_ ?_)
 ·intro Ym Q;cases X8 with
  |error e=>
   have B:¬((iw (.error e):Sf):Sl)=0:=fun Xo=>by have⟨q,X⟩:=W9.ke.1 Z;cases X
   refine e6 b B ?_;exact Q _ _ ⟨V b,V c,aa,W9,Xa⟩
  |ok q=>
   have B:((iw (.ok q):Sf):Sl)=0:=rfl;by_cases WD:29<r
   ·have WJ:((r+257:Sf):Sl)>286:=Z;refine ib b c (Sm B) (Sm WJ) @bP W9.fA ((pf v Xy g h d F q 4 _ G o W9 ai).b ?_);rintro _ X9 ⟨Xz,WB⟩;refine c0 b ?_;exact Q _ _ ⟨V b,V c,aa,by rw[pg _ WD];exact Xz,Xa.a WB⟩
   have WJ:¬((r+257:Sf):Sl)>286:=Z;refine nh b (Sm B) WJ ?_;exact Q _ _ ⟨V b,V c,aa,by rw[ph _ WD];exact W9,Xa⟩
 clear b c f W9 Xa Xn;rintro f Xy ⟨b,c,m,Xz,Xa⟩;obtain⟨Yn,Zj⟩:∃T,T=k2 X8 (29<r):=⟨_,rfl⟩
 rw[<-Zj] at Xz;refine aW b c @bP Xz.fA ((pe v Xy g h d F Yn 5 _ G o Xz Z Z).b ?_);rintro _ X9 ⟨rfl,Xb,WB⟩;obtain⟨WH,Zk⟩:∃WX,WX=fz d Yn 5:=⟨_,rfl⟩
 obtain⟨YS,Zl⟩:∃T,T=hh d Yn 5:=⟨_,rfl⟩
 have Z6:=oq d Yn 5;rw[<-Zk] at Z6|-
 rw[<-Zl] at Xb;have Xn:((WH:Sf):Sl)+1=((WH+1:Sf):Sl):=Z;refine ch b c Xn @bP @cq Xb.fA Xb.mO (yd (fun H t=>H.e=264/\H.N 0=cH g/\H.N 4=I ((r+257:Sf):Sl)/\H.N 5=I ((WH+1:Sf):Sl)/\eK v g h d F (WG:Sf) G o t (k2 YS (29<WH))/\gr h R t) ?_ ?_)
 ·intro Ym Q;have WB:=Xa.a WB;cases YS with
  |error e=>
   have B:¬((iw (.error e):Sf):Sl)=0:=fun Xo=>by have⟨q,X⟩:=Xb.ke.1 Z;cases X
   refine e6 b B ?_;exact Q _ _ ⟨V b,V c,V m,aa,Xb,WB⟩
  |ok q=>
   have B:((iw (.ok q):Sf):Sl)=0:=rfl;by_cases WD:29<WH
   ·have WJ:((WH+1:Sf):Sl)>30:=Z;refine ib b c (Sm B) (Sm WJ) @bP Xb.fA ((pf v X9 g h d F q 4 _ G o Xb ai).b ?_);rintro _ Zm ⟨WI,YT⟩;refine c0 b ?_;exact Q _ _ ⟨V b,V c,V m,aa,by rw[pg _ WD];exact WI,WB.a YT⟩
   have WJ:¬((WH+1:Sf):Sl)>30:=Z;refine nh b (Sm B) WJ ?_;exact Q _ _ ⟨V b,V c,V m,aa,by rw[ph _ WD];exact Xb,WB⟩
 clear b c m f Xz Xb Xa WB Xn Xy X9;rintro f Xy ⟨b,c,m,p,WI,Xa⟩;obtain⟨Yo,Zn⟩:∃T,T=k2 YS (29<WH):=⟨_,rfl⟩
 rw[<-Zn] at WI;refine aW b c @bP WI.fA ((pe v Xy g h d F Yo 4 _ G o WI Z Z).b ?_);rintro _ X9 ⟨rfl,Yp,WB⟩;have WB:=Xa.a WB;obtain⟨WQ,Zo⟩:∃WX,WX=fz d Yo 4:=⟨_,rfl⟩
 obtain⟨YU,Zp⟩:∃T,T=hh d Yo 4:=⟨_,rfl⟩
 have Z7:=oq d Yo 4;rw[<-Zo] at Z7|-
 rw[<-Zp] at Yp;have Zq:=RW Zh Zi Zj Zk Zl Zn Zo Zp;have Xn:((WQ:Sf):Sl)+4=((WQ+4:Sf):Sl):=Z;refine aR b Xn @Ji ?_;refine du (by rfl) ?_;intro Xp Zm Xh Z8 YV;have Z9:∀t:J,iU Sh t 181 (I 19) (I 19)=cL t (Si 19 (I 0)) 19 1:=fun t=>sq (n:=19) ec aQ lB o3 ai ai
 refine aq b Z9 ?_;refine du (by rw[SB,SE]) ?_;intro S Zr WK Zs Yq;have zaa:X9.Y=R.Y:=WB.1;have zaQ:=YV.Y;have zaR:=Yq.Y;have YW:cr g h o R o Zr:=(WB.qy.hX YV).hX Yq;have WY:eK v g h d F (WG:Sf) G o Zr YU:=(Yp.C YV Z).C Yq Z;have YX:=Xh.C Yq;have Zt:∀a,ak Xp=some a->R.Y<=a:=fun a w=>ag (Z8 a w)
 have Xi:∀a,ak S=some a->R.Y<=a:=fun a w=>ag (Zs a w)
 have zab:∀a,ak Xp=some a->ak S≠some a:=fun a w e=>bq (Xh.z a w) (Zs a e)
 have Yr:∀K,(∀a,ak K=some a->R.Y<=a)->∀a,ak K=some a->v<=a/\a≠g/\a≠h/\ak o≠some a:=fun K Xj a w=>by
  have:=Xj a w;exact⟨Z,Z,Z,fun e=>ag (Zf a e)⟩
 rw[uS] at WK;have⟨Zu,YY⟩:=aO (ot d (ej.take (WQ+4)) YU (Si 19 0));have zaS:ej.length=19:=rfl;refine ax b ?_;refine aZ.w (fun WC f t=>∃(a:Sf) (T:Sp Sf Sf) (j:Sg Sf),WC=WQ+4-a/\a<=WQ+4/\ot d ((ej.take (WQ+4)).drop a) T j=Zu/\j.length=19/\(∀s,j.getD s 0<=7)/\eK v g h d F (WG:Sf) G o t T/\ao t 1 Xp 19 (bf ej)/\ao t 1 S 19 (bf j)/\cr g h o R o t/\f.e=264/\f.N 0=cH g/\f.N 4=I ((r+257:Sf):Sl)/\f.N 5=I ((WH+1:Sf):Sl)/\f.N 6=I ((WQ+4:Sf):Sl)/\f.N 7=Xp/\f.N 8=S/\f.N 9=I (a:Sf))
  (fun WC f t=>WC= .bb 0/\∃(T:Sp Sf Sf) (j:Sg Sf),Zu=(T,j)/\j.length=19/\(∀s,j.getD s 0<=7)/\eK v g h d F (WG:Sf) G o t T/\ao t 1 S 19 (bf j)/\cr g h o R o t/\f.e=264/\f.N 0=cH g/\f.N 4=I ((r+257:Sf):Sl)/\f.N 5=I ((WH+1:Sf):Sl)/\f.N 8=S)
  ⟨0,YU,_,rfl,Z,by rw[YY];rfl,aA,fun s=>by rw[Se,SK];split<;>simp,WY,YX,WK,YW,V b,V c,V m,V p,aa,aa,aa,aa⟩ ?_ ?_
 ·clear b c m p f WY YX WK YW;rintro zac Ya WC f t ⟨a,T,j,rfl,w,Ys,XW,Yt,L,Xh,WK,WL,b,c,m,p,Yu,YZ,z,Yb⟩;by_cases zad:a<WQ+4;rotate_left
  ·obtain rfl:a=WQ+4:=Z;rw[List.drop_of_length_le (by rw[SC];omega),ot] at Ys;refine aW b Yu Yb (Z:¬((WQ+4:Sf):Sl)<((WQ+4:Sf):Sl)) ?_;exact Ya _ _ _ ⟨rfl,T,j,Ys.symm,XW,Yt,L,WK,WL,V b,V c,V m,V p,V z⟩
  have Yv:a<19:=Z;have Zv:v<=t.Y:=ag WL.Y;have zae:(ej.take (WQ+4)).drop a=ej.getD a 0::(ej.take (WQ+4)).drop (a+1):=by
   rw[List.drop_eq_getElem_cons (by rw[SC];omega)]
   congr 1
   rw[List.getElem_take,Se,List.getElem?_eq_getElem Z];rfl
  rw[zae,ot] at Ys;have zaf:ej.getD a 0<19:=by
   exact(show∀a,a<19->ej.getD a 0<19 by decide) a Yv
  refine aW b Yu Yb (Sm (Z:(a:Sl)<((WQ+4:Sf):Sl))) ?_;have⟨WR,Xq⟩:=aO (fun s=>decide (s<t.Y/\s≠h):Sf->Bool);have Yw:∀s,WR s=true->s<t.Y:=by
   intro s u;rw[Xq] at u;exact(SP u).1
  have Yc:∀s,s<t.Y->s≠h->WR s=true:=fun s Wz WU=>by rw[Xq];exact Sz ⟨Wz,WU⟩
  have zag:WR h=false:=by rw[Xq];exact Sx (fun u=>u.2 rfl)
  have Xk:=ad.aS t 0;have zaT:(aS t 0).Y=t.Y+0:=gg _ _;have Yd:=L.C Xk Zv;have XX:=Xh.C Xk;have zah:∀s,ak Xp=some s->WR s=true:=fun s Ye=>Yc s (Xh.z s Ye) (ag (Zt s Ye))
  have zai:∀W5,LA.c4 WR (some (ab g W5 4))=true:=fun W5=>LA.hT (A:=WR) (i:=g) (Yc _ (ag WL.Y) u.U.symm)
  have Y0:=Jh Xh.c zah Yv;have Yf:=XX.c.r (P:=Sh) (k:= .i64) (x:=(a:Sl)) eH aQ Z Z;have Yg:=XX.c.P (P:=Sh) rC Yv;rw[l3 Yv] at Yg;rw[Sr] at Yf;have Y1:=WK.c.r (P:=Sh) (k:= .i64) (x:=((ej.getD a 0:Sf):Sl)) ec aQ Z Z;rw[Sr] at Y1;refine LB.kQ.hx WR Yw 1 0 cW cW ?_;refine nS b c YZ z Yb @bP Yd.fA zai Y0 Xh.m WK.m Yf Yg Y1 ?_;refine(pe v (aS t 0) g h d F T 3 _ G o Yd Z Z).b ?_;rintro _ WV ⟨rfl,W6,WB⟩;refine⟨fun _=>⟨by rw[WB.1];exact SI _,fun q X=>WB.2 q (fun e=>by rw[e,zag] at X;cases X)⟩,?_⟩;have Yx:ao WV 1 S 19 (bf j):=pj (WK.C Xk) WB (fun e=>ag (Xi _ e));have zaj:ao WV 1 Xp 19 (bf ej):=pj (Xh.C Xk) WB (fun e=>ag (Zt _ e))
  try simp(disch:=omega)only[aI,bD,fi,dy,SY,Nat.add_one_sub_one,Nat.reduceSub,b6,bB,bC,eU,Sv,Nat.reduceLeDiff,Su,Nat.reduceAdd,↓SF,b,c,m,p,Yu,YZ,z,Yb,Y1,WK.m,ez,lW]
  refine LB.RU aQ Yx zaf rfl (fun u=>absurd rfl u) (fun q X=>bq (Yw q X) WB.1) ?_;intro WS Yh XY;rw[uR] at Yh;have zak:ao WS 1 Xp 19 (bf ej):=zaj.j XY zab;have Yy:=W6.j XY (Yr S Xi) (by rw[WB.1];omega);refine aq b Yb ?_;have zaU:=oq d T 3;exact aH (WQ+4-(a+1)) Z ⟨a+1,hh d T 3,j.set (ej.getD a 0) (fz d T 3),rfl,Z,Ys,by simpa using XW,fun s=>by
   rw[Se,List.getElem?_set];split
   ·split
    ·show fz d T 3<=7;omega
    exact SL _
   rw[<-Se];exact Yt s,Yy,zak,Yh,((WL.hX Xk).a WB.qy).va XY Xi,V b,V c,V m,V p,V Yu,V YZ,V z,aa⟩
 clear b c m p f WY YX WK YW;rintro WC f t ⟨rfl,Y2,j,Zw,XW,Yt,WY,WK,WL,b,c,m,p,z⟩;have Zv:v<=t.Y:=ag WL.Y;have Zx:az t 1 S j.length (bf j):=by rw[XW];exact WK.c
 refine cl b c @bP @cq WY.fA WY.mO (yd (fun H M=>H.e=264/\H.N 0=cH g/\H.N 4=I ((r+257:Sf):Sl)/\H.N 5=I ((WH+1:Sf):Sl)/\H.N 8=S/\eK v g h d F (WG:Sf) G o M (k2 Y2 (¬fK j))/\gr h t M) ?_ ?_)
 ·intro Ym Q;cases Y2 with
  |error e=>
   have B:¬((iw (.error e):Sf):Sl)=0:=fun Xo=>by have⟨q,X⟩:=WY.ke.1 Z;cases X
   refine e6 b B ?_;exact Q _ _ ⟨V b,V c,V m,V p,V z,WY,gr.p _ _⟩
  |ok q=>
   have B:((iw (.ok q):Sf):Sl)=0:=rfl;refine nh b z (Sm B) ((Bd t S j Zx Z ((fun s=>Ss (Yt s) Z):jo j)).b ?_);rintro _ WV ⟨rfl,XZ⟩;subst XZ;by_cases WD:fK j
   ·refine e6 b (Sm WD) ?_;exact Q _ _ ⟨V b,V c,V m,V p,V z,by rw[ph _ (fun u=>u WD)];exact WY,gr.p _ _⟩
   refine gX b c WD @bP WY.fA ((pf v _ g h d F q 4 _ G o WY ai).b ?_);rintro _ Zm ⟨Xr,YT⟩;refine c0 b ?_;exact Q _ _ ⟨V b,V c,V m,V p,V z,by rw[pg _ WD];exact Xr,YT⟩
 clear b c m p z f;rintro f Yz ⟨b,c,m,p,z,Xr,Y3⟩;have Y4:ao Yz 1 S 19 (bf j):=pj WK Y3 (fun e=>ag (Xi _ e));have YA:=WL.a Y3.qy;have Zy:az Yz 1 S j.length (bf j):=by rw[XW];exact Y4.c
 obtain⟨Y5,Zz⟩:∃T,T=k2 Y2 (¬fK j):=⟨_,rfl⟩
 rw[<-Zz] at Xr;clear WY WK Zx WL Y3;refine aq b z ((Ay Yz S j Zy Z).b ?_);rintro WT WV ⟨X0,-,zal,YB⟩;have zaa:=YB.Y;have Xr:=Xr.C YB (ag YA.Y:v<=Yz.Y);have Yx:=Y4.C YB;have ZA:=YA.hX YB;have YC:∀a,ak WT=some a->R.Y<=a:=fun a w=>bq (zal a w) YA.Y
 have zaV:R.Y<=WV.Y:=ZA.Y;have⟨WW,zam⟩:=aO (r+257+(WH+1));have zaW:(2:Sf)^5=32:=by decide
 have X1:((r+257:Sf):Sl)+((WH+1:Sf):Sl)=((WW:Sf):Sl):=Z;have⟨Yi,Xs⟩:=aO (lJ Y5 fun q=>hI d j WW X7 q []);have ZB:=R2 (e:=X7) (k:=Yi) Zq (by rw[<-YY];exact Zw) Zz (by rw[Xs,zam]);rw[ZB];clear ZB Zy Y4 YA Zq YY Zw;refine ax b ?_;refine aZ.w (fun WC f t=>∃(l:Sg Sf) (O:Sj),ao t 1 O l.length (bf l)/\ay WV.Y O/\l.length<=WW/\jo l/\ao t 1 S 19 (bf j)/\ao t 1 WT j.length (bf (gH j))/\cr g h o R o t/\WV.Y<=t.Y/\f.e=264/\f.N 0=cH g/\f.N 4=I ((r+257:Sf):Sl)/\f.N 5=I ((WH+1:Sf):Sl)/\f.N 8=S/\f.N 10=WT/\f.N 11=O/\((∃q,eK v g h d F (WG:Sf) G o t (.ok q)/\hI d j WW WC q l=Yi/\8*d.length+1<WC+q)\/(WC=0/\∃e,eK v g h d F (WG:Sf) G o t (.error e)/\Yi= .error e)))
  (fun WC f t=>WC= .bb 2/\∃(l:Sg Sf) (O:Sj),ao t 1 O l.length (bf l)/\ay WV.Y O/\jo l/\cr g h o R o t/\WV.Y<=t.Y/\f.e=264/\f.N 0=cH g/\f.N 4=I ((r+257:Sf):Sl)/\f.N 5=I ((WH+1:Sf):Sl)/\f.N 11=O/\((∃q,eK v g h d F (WG:Sf) G o t (.ok q)/\Yi= .ok (l,q)/\l.length=WW)\/(∃e,eK v g h d F (WG:Sf) G o t (.error e)/\Yi= .error e)))
  (k:=match Y5 with| .ok _=>X7| .error _=>0) ⟨[],_,.al,ay.al _,aA,fun a=>aA,Yx,X0,ZA,SI _,V b,V c,V m,V p,V z,aa,aa,by
   cases Y5 with
   |ok q=>exact .inl ⟨q,Xr,Xs.symm,Sk Z3 (Nat.le_add_right _ _)⟩
   |error e=>exact .inr ⟨rfl,e,Xr,Xs⟩⟩ ?_ ?_
 rotate_left
 ·clear b c m p z f;rintro WC f t ⟨rfl,l,O,WM,Xt,Xc,WL,YD,b,c,m,p,E,(⟨q,L,Xs,ZC⟩|⟨e,L,Xs⟩)⟩;rotate_left
  ·have B:¬((iw (.error e):Sf):Sl)=0:=fun Xo=>by have⟨q,X⟩:=L.ke.1 Z;cases X
   refine sx b c @bP @cq L.fA L.mO B @Sy ?_;rw[Xs];exact⟨⟨_,_,rfl⟩,L,WL⟩
  have B:((iw (.ok q):Sf):Sl)=0:=rfl;have⟨zan,Y6⟩:=aO (if fK (l.take (r+257))/\fK (l.drop (r+257))/\l.getD 256 0≠0 then .ok ((l.take (r+257),l.drop (r+257)),q) else .error 4:Sp Sf ((Sg Sf×Sg Sf)×Sf));rw[Xs,mg];dsimp only;rw[<-Y6];have WA:=WM.c.pP (P:=Sh) (k:= .i64) (y:=((r+257:Sf):Sl)) ec aQ Z Z;have ZD:=WM.c.oJ (P:=Sh) (k:= .i64) (x:=((r+257:Sf):Sl)) ec aQ Z Z;rw[Sr] at WA ZD;have YE:=WM.c.nP (a:=0) (b:=r+257) Z Z;have YF:=WM.c.nP (a:=r+257) (b:=l.length) Z (SI _);rw[SE,SE,vc,vb,List.drop_zero,Nat.sub_zero] at YE;rw[SE,SE,vc,vb,List.take_of_length_le (by rw[SQ];omega)] at YF;have Y7:(l.take (r+257)).length=r+257:=by rw[SC];omega
  have zao:(l.drop (r+257)).length=l.length-(r+257):=by rw[SQ]
  rw[<-Y7] at YE;rw[<-zao] at YF;rw[Y7] at YE;have YG:az t 1 (cU 1 O 0 (r+257)) (l.take (r+257)).length (bf (l.take (r+257))):=by rw[Y7];exact YE
  have zap:∀W7 w a,ak (cU 1 O W7 w)=some a->ak O=some a:=fun W7 w a u=>Jj u
  have X2:∀W7 w a,ak (cU 1 O W7 w)=some a->a<t.Y/\a≠g/\a≠h/\ak o≠some a:=fun W7 w a u=>by
   have Wz:=zap W7 w a u;have WU:=WM.z a Wz;have YH:=Xt a Wz;exact⟨WU,Z,Z,fun e=>ag (Zf a e)⟩
  have zaq:∀W7 w,bn (cU 1 O W7 w) (cU 1 O W7 w)=true:=fun W7 w=>by simp[zy]
  have zar:eI g h o t (cU 1 O 0 (r+257)) (l.take (r+257)):=⟨YG,X2 _ _⟩;have zas:eI g h o t (cU 1 O (r+257) l.length) (l.drop (r+257)):=⟨YF,X2 _ _⟩;have ZE:256<(l.take (r+257)).length:=Z;have zat:(l.take (r+257)).getD 256 0=l.getD 256 0:=by rw[Se,SJ Z,Se]
  have Y8:=YG.r (P:=Sh) (k:= .i64) (x:=(256:Sl)) ec aQ Z Z;rw[show(256:Sl).toNat=256 from rfl] at Y8;have Y9:=YG.P (P:=Sh) rC ZE;rw[l3 ZE,zat] at Y9;have Za:∀(M:J),eK v g h d F (WG:Sf) G o M (.error 4)->gr h t M->(¬(fK (l.take (r+257))/\fK (l.drop (r+257))/\l.getD 256 0≠0))->Jk v g h d F (WG:Sf) G o R (.tuple #[cU 1 O 0 (r+257),cU 1 O (r+257) l.length]) M zan:=fun M Wz WU YH=>by
   rw[Y6,So YH];exact⟨⟨_,_,rfl⟩,Wz,WL.a WU.qy⟩
  refine pV b c m E @bP @cq L.fA L.mO B WA ZD WM.m zaq ((Bd t _ (l.take (r+257)) YG Z (Jf Xc _)).b ?_);rintro _ WS ⟨rfl,Zb⟩;subst Zb;by_cases YI:fK (l.take (r+257));rotate_left
  ·refine gX b c YI @bP L.fA ((pf v _ g h d F q 4 _ G o L ai).b ?_);rintro _ WN ⟨WI,Wy⟩;refine oR b @Sy ?_;exact Za WN WI Wy (fun u=>YI u.1)
  refine e6 b (Sm YI) ((Bd WS _ (l.drop (r+257)) YF Z (Jg Xc _)).b ?_);rintro _ WS ⟨rfl,Zb⟩;subst Zb;by_cases Yj:fK (l.drop (r+257));rotate_left
  ·refine gX b c Yj @bP L.fA ((pf v _ g h d F q 4 _ G o L ai).b ?_);rintro _ WN ⟨WI,Wy⟩;refine oR b @Sy ?_;exact Za WN WI Wy (fun u=>Yj u.2.1)
  by_cases ZF:l.getD 256 0=0
  ·have WJ:((l.getD 256 0:Sf):Sl)=0:=Z;refine kO b c (Sm Yj) Y8 Y9 (Sm WJ) @bP L.fA ((pf v _ g h d F q 4 _ G o L ai).b ?_);rintro _ WN ⟨WI,Wy⟩;refine oR b @Sy ?_;exact Za WN WI Wy (fun u=>u.2.2 ZF)
  have WJ:¬((l.getD 256 0:Sf):Sl)=0:=Z;refine rf b (Sm Yj) Y8 Y9 WJ @Sy ?_;rw[Y6,Sq ⟨YI,Yj,ZF⟩];exact⟨_,_,rfl,L.1,L.2,WL,zar,zas,Z,Z⟩
 clear b c m p z f;rintro zac Ya WC f t ⟨l,O,WM,Xt,ZC,Xc,WK,X0,WL,YD,b,c,m,p,z,U,E,(⟨q,L,YJ,zaX⟩|⟨rfl,e,L,YK⟩)⟩;rotate_left
 ·have B:¬((iw (.error e):Sf):Sl)=0:=fun Xo=>by have⟨q,X⟩:=L.ke.1 Z;cases X
  by_cases WD:((l.length:Sf):Sl)<((WW:Sf):Sl)
  ·refine pV b c m p E (WM.c.g ec) X1 (Sm WD) @bP @cq L.fA L.mO B ?_;exact Ya _ _ _ ⟨rfl,l,O,WM,Xt,Xc,WL,YD,V b,V c,V m,V p,V E,.inr ⟨e,L,YK⟩⟩
  refine eC b m p E (WM.c.g ec) X1 WD ?_;exact Ya _ _ _ ⟨rfl,l,O,WM,Xt,Xc,WL,YD,V b,V c,V m,V p,V E,.inr ⟨e,L,YK⟩⟩
 have zau:q<=8*d.length:=L.2;obtain⟨W5,rfl⟩:∃W5,WC=W5+1:=⟨WC-1,Z⟩
 have B:((iw (.ok q):Sf):Sl)=0:=rfl;by_cases ZG:WW<=l.length
 ·have WD:¬((l.length:Sf):Sl)<((WW:Sf):Sl):=Z;rw[hI,Sq ZG] at YJ;refine eC b m p E (WM.c.g ec) X1 WD ?_;exact Ya _ _ _ ⟨rfl,l,O,WM,Xt,Xc,WL,YD,V b,V c,V m,V p,V E,.inl ⟨q,L,YJ.symm,Z⟩⟩
 have WD:((l.length:Sf):Sl)<((WW:Sf):Sl):=Z;have zaY:v<=t.Y:=Z;have X2:∀(K:Sj) (WZ:Sg Sf),ao t 1 K WZ.length (bf WZ)->(∀a,ak K=some a->R.Y<=a)->eI g h o t K WZ:=fun K WZ Wz WU=>⟨Wz.c,fun a w=>⟨Wz.z a w,(Yr K WU a w).2⟩⟩
 have YL:∀a,ak O=some a->R.Y<=a:=fun a w=>ag (Xt a w)
 refine rh b c m p z U E (WM.c.g ec) X1 (Sm WD) @bP @cq L.fA L.mO B ?_;have ZH:=X2 S j (by rw[XW];exact WK) Xi;have ZI:eI g h o t WT (gH j):=X2 WT (gH j) (by rw[yc];exact X0) YC;refine(Bc v t g h d F q _ G o L.1 zau Z S WT j (gH j) ZH ZI (A7 j) Z).b ?_;intro Xm WS ZJ;obtain⟨rfl,W0,YM⟩:=R3 ZJ;clear ZJ;have YN:∀(K:Sj) (WZ:Sg Sf) (WX:Sf),ao t 1 K WX (bf WZ)->(∀a,ak K=some a->R.Y<=a)->ao WS 1 K WX (bf WZ):=fun K WZ WX Wz WU=>(x8.br (fun a w=>(Yr K WU a w).2) Wz YM).1
 have Xd:=YN O l _ WM YL;have Yh:=YN S j _ WK Xi;have ZK:=YN WT (gH j) _ X0 YC;have XY:=WL.a YM;have zaZ:=YM.Y;have Zc:(k4 (dS d j q)).1<=18/\∀W,(k4 (dS d j q)).2= .ok W->q<W:=by
  cases zav:dS d j q with
  |error e=>exact⟨by simp[k4],fun W u=>by cases u⟩
  |ok K=>
   have:=pb zav;exact⟨by simp only[k4];omega,fun W u=>by simp only[k4] at u;injection u with u;omega⟩
 have⟨W1,WE⟩:=aO (k3 d (k4 (dS d j q)).1 (k4 (dS d j q)).2 l);obtain⟨Xe,Xu⟩:∃T,T=k2 W1.2.2 (WW<l.length+W1.2.1):=⟨_,rfl⟩
 have Xv:=RX (k:=W5) ZG WE Xu;rw[YJ] at Xv;have YO:=RZ (D:=d) (x:=(k4 (dS d j q)).2) Zc.1 Xc;rw[<-WE] at YO;have YP:∀W,Xe= .ok W->q<W/\l.length+W1.2.1<=WW/\W1.1<=15:=fun W u=>by
  rw[Xu] at u;have⟨Wz,WU⟩:=R1 u;have YH:=YO.2.1 W Wz;rw[WE] at Wz;cases Zd:(k4 (dS d j q)).2 with
  |error e=>rw[Zd] at Wz;simp[k3] at Wz
  |ok WA=>
   rw[Zd] at Wz;have:=R0 Wz;have:=Zc.2 WA Zd;exact⟨Z,Z,YH⟩
 generalize zaw:(k4 (dS d j q)).1=W8 at*;generalize zax:(k4 (dS d j q)).2=X8 at*;have zay:W1.2.1<=200:=YO.1;clear YO zaw zax Zc L WM WK X0 WL YM ZH ZI X2 YN YJ;refine ib b c @bP @cq W0.fA W0.mO (Be (fun H M=>H.e=264/\H.N 0=cH g/\H.N 4=I ((r+257:Sf):Sl)/\H.N 5=I ((WH+1:Sf):Sl)/\H.N 8=S/\H.N 10=WT/\H.N 11=O/\H.N 13=I (W1.1:Sf)/\H.N 14=I (W1.2.1:Sf)/\eK v g h d F (WG:Sf) G o M W1.2.2/\gr h WS M) ?_ ?_)
 ·intro Ym Q;cases X8 with
  |error e=>
   have B:¬((iw (.error e):Sf):Sl)=0:=fun Xo=>by have⟨q,X⟩:=W0.ke.1 Z;cases X
   refine c0 B ?_;rw[(WE:W1=(W8,1,.error e))] at Q;exact Q _ _ ⟨V b,V c,V m,V p,V z,V U,V E,aa,aa,W0,gr.p _ _⟩
  |ok WA=>
  have B:((iw (.ok WA):Sf):Sl)=0:=rfl;unfold k3 at WE;dsimp only at WE;by_cases ZL:W8=16
  ·have X3:((W8:Sf):Sl)=16:=Z;rw[Sq ZL] at WE;by_cases ZM:l.length=0
   ·have zaz:((l.length:Sf):Sl)=0:=Z;rw[Sq ZM] at WE;refine je b c E B (Sm X3) (Xd.c.g ec) (Sm zaz) @bP W0.fA ((pf v _ g h d F WA 4 _ G o W0 ai).b ?_);rintro _ WN ⟨WI,Wy⟩;refine c0 b ?_;rw[WE] at Q;exact Q _ _ ⟨V b,V c,V m,V p,V z,V U,V E,aa,aa,WI,Wy⟩
   rw[So ZM] at WE;have⟨WR,Xq⟩:=aO (fun s=>decide (s<WS.Y/\s≠h):Sf->Bool);have Yw:∀s,WR s=true->s<WS.Y:=by
    intro s u;rw[Xq] at u;exact(SP u).1
   have Yc:∀s,s<WS.Y->s≠h->WR s=true:=fun s Wz WU=>by rw[Xq];exact Sz ⟨Wz,WU⟩
   have Xk:=ad.aS WS 0;have Yd:=W0.C Xk Z;have XX:=Xd.C Xk;have Y0:=Jh Xd.c ((fun s Ye=>Yc s (Xd.z s Ye) (ag (YL s Ye))):∀s,ak O=some s->WR s=true) (k:=l.length-1) Z;have Yf:=XX.c.r (P:=Sh) (k:= .i64) (x:=((l.length-1:Sf):Sl)) ec aQ Z Z;have Yg:=XX.c.P (P:=Sh) rC (k:=l.length-1) Z;rw[l3 Z] at Yg;rw[Sr] at Yf;refine ib b E B (Sm X3) (Xd.c.g ec) (Z:¬((l.length:Sf):Sl)=0) (LB.kQ.hx WR Yw 1 0 cW cW ?_);simp(disch:=omega)only[aI,bD,fi,dy,SY,bB,Sv,Su,↓SF,b,c,E,bP,Yd.fA,((fun W5=>LA.hT (A:=WR) (i:=g) (Yc _ Z u.U.symm)):∀W5,LA.c4 WR (some (ab g W5 4))=true),Y0,(LA.q9 Xd.c),Xd.m,XX.c.cd ec,cg,(Z:((l.length:Sf):Sl)-1=((l.length-1:Sf):Sl)),Yf,Yg];refine(pe v (aS WS 0) g h d F (.ok WA) 2 _ G o Yd Z Z).b ?_;rintro _ WN ⟨rfl,WI,Wy⟩;have ZN:=oq d (.ok WA) 2;refine⟨fun _=>⟨by rw[Wy.1];exact SI _,fun q X=>Wy.2 q (fun e=>by rw[e,(show WR h=false by rw[Xq];exact Sx (fun u=>u.2 rfl))] at X;cases X)⟩,?_⟩
   try simp(disch:=omega)only[aI,fi,dy,Sv,Su,↓SF,aI,Sv,Su,↓SF,b,cg,(Z:(3:Sl)+((fz d (.ok WA) 2:Sf):Sl)=((3+fz d (.ok WA) 2:Sf):Sl))]
   rw[WE] at Q;exact Q _ _ ⟨V b,V c,V m,V p,V z,V U,V E,aa,aa,WI,⟨by rw[Wy.1];exact(gg _ _:(aS WS 0).Y=WS.Y+0),fun a w=>by rw[Wy.2 a w];rfl⟩⟩
  have X3:¬((W8:Sf):Sl)=16:=Z;rw[So ZL] at WE;by_cases ZO:W8=17
  ·have YQ:((W8:Sf):Sl)=17:=Z;rw[Sq ZO] at WE;refine eC b c B X3 (Sm YQ) @bP W0.fA ((pe v _ g h d F (.ok WA) 3 _ G o W0 Z Z).b ?_);rintro _ WN ⟨rfl,WI,Wy⟩;have ZN:=oq d (.ok WA) 3;refine e6 b (Z:(3:Sl)+((fz d (.ok WA) 3:Sf):Sl)=((3+fz d (.ok WA) 3:Sf):Sl)) ?_;rw[WE] at Q;exact Q _ _ ⟨V b,V c,V m,V p,V z,V U,V E,aa,aa,WI,Wy⟩
  have YQ:¬((W8:Sf):Sl)=17:=Z;rw[So ZO] at WE;by_cases ZP:W8=18
  ·have zaA:((W8:Sf):Sl)=18:=Z;rw[Sq ZP] at WE;refine kO b c B X3 YQ (Sm zaA) @bP W0.fA ((pe v _ g h d F (.ok WA) 7 _ G o W0 Z Z).b ?_);rintro _ WN ⟨rfl,WI,Wy⟩;have ZN:=oq d (.ok WA) 7;refine e6 b (Z:(11:Sl)+((fz d (.ok WA) 7:Sf):Sl)=((11+fz d (.ok WA) 7:Sf):Sl)) ?_;rw[WE] at Q;exact Q _ _ ⟨V b,V c,V m,V p,V z,V U,V E,aa,aa,WI,Wy⟩
  rw[So ZP] at WE;refine gX b B X3 YQ (Z:¬((W8:Sf):Sl)=18) ?_;rw[WE] at Q;exact Q _ _ ⟨V b,V c,V m,V p,V z,V U,V E,aa,aa,W0,gr.p _ _⟩
 clear b c m p z U E f;rintro f WN ⟨b,c,m,p,z,U,E,W2,WO,W6,Wy⟩;have Ze:ao WN 1 O l.length (bf l):=pj Xd Wy (fun e=>ag (YL _ e));have zaB:ao WN 1 S 19 (bf j):=pj Yh Wy (fun e=>ag (Xi _ e));have zaC:ao WN 1 WT j.length (bf (gH j)):=pj ZK Wy (fun e=>ag (YC _ e));have zaD:=XY.a Wy.qy;have za0:WN.Y=WS.Y:=Wy.1;have⟨Xf,ZQ⟩:=aO W1.1;have⟨W3,ZR⟩:=aO W1.2.1;have⟨zaE,ZS⟩:=aO W1.2.2;rw[<-ZQ] at W2 YP Xv;rw[<-ZR] at WO YP Xu Xv zay;rw[<-ZS] at W6 Xu;clear Xd Yh ZK XY Wy WE ZQ ZR ZS;refine ib b c @bP @cq W6.fA W6.mO (yd (fun H M=>H.e=264/\H.N 0=cH g/\H.N 4=I ((r+257:Sf):Sl)/\H.N 5=I ((WH+1:Sf):Sl)/\H.N 8=S/\H.N 10=WT/\H.N 11=O/\H.N 13=I (Xf:Sf)/\H.N 14=I (W3:Sf)/\eK v g h d F (WG:Sf) G o M Xe/\gr h WN M) ?_ ?_)
 ·intro Ym Q;cases zaE with
  |error e=>
   have B:¬((iw (.error e):Sf):Sl)=0:=fun Xo=>by have⟨q,X⟩:=W6.ke.1 Z;cases X
   refine e6 b B ?_;rw[Xu] at Q;exact Q _ _ ⟨V b,V c,V m,V p,V z,V U,V E,V W2,V WO,W6,gr.p _ _⟩
  |ok WA=>
   have B:((iw (.ok WA):Sf):Sl)=0:=rfl;by_cases WD:WW<l.length+W3
   ·have WJ:((l.length:Sf):Sl)+((W3:Sf):Sl)>((WW:Sf):Sl):=Z;refine sz b c m p E WO B (Ze.c.g ec) X1 (Sm WJ) @bP W6.fA ?_;refine(pf v _ g h d F WA 4 _ G o W6 ai).b ?_;rintro _ Yk ⟨Yp,Xw⟩;refine c0 b ?_;exact Q _ _ ⟨V b,V c,V m,V p,V z,V U,V E,V W2,V WO,by rw[Xu,pg _ WD];exact Yp,Xw⟩
   have WJ:¬((l.length:Sf):Sl)+((W3:Sf):Sl)>((WW:Sf):Sl):=Z;refine je b m p E WO B (Ze.c.g ec) X1 WJ ?_;exact Q _ _ ⟨V b,V c,V m,V p,V z,V U,V E,V W2,V WO,by rw[Xu,ph _ WD];exact W6,gr.p _ _⟩
 clear b c m p z U E W2 WO f;rintro f Yk ⟨b,c,m,p,z,U,E,W2,WO,Yy,Xw⟩;have ZT:ao Yk 1 O l.length (bf l):=pj Ze Xw (fun e=>ag (YL _ e));have ZU:ao Yk 1 S 19 (bf j):=pj zaB Xw (fun e=>ag (Xi _ e));have ZV:ao Yk 1 WT j.length (bf (gH j)):=pj zaC Xw (fun e=>ag (YC _ e));have zaF:=zaD.a Xw.qy;have za1:Yk.Y=WN.Y:=Xw.1;refine c0 b ?_;refine aZ.w (fun WC f M=>∃(a:Sf) (K:Sj),WC=W3-a/\a<=W3/\ao M 1 K (l.length+a) (bf (l++Si a Xf))/\ay WV.Y K/\ao M 1 S 19 (bf j)/\ao M 1 WT j.length (bf (gH j))/\cr g h o R o M/\WV.Y<=M.Y/\eK v g h d F (WG:Sf) G o M Xe/\f.e=264/\f.N 0=cH g/\f.N 4=I ((r+257:Sf):Sl)/\f.N 5=I ((WH+1:Sf):Sl)/\f.N 8=S/\f.N 10=WT/\f.N 11=K/\f.N 13=I (Xf:Sf)/\f.N 14=I (W3:Sf)/\f.N 15=I (a:Sf)/\((∃W,Xe= .ok W)\/a=0))
  (fun WC f M=>WC= .bb 5/\∃(a:Sf) (K:Sj),ao M 1 K (l.length+a) (bf (l++Si a Xf))/\ay WV.Y K/\ao M 1 S 19 (bf j)/\ao M 1 WT j.length (bf (gH j))/\cr g h o R o M/\WV.Y<=M.Y/\eK v g h d F (WG:Sf) G o M Xe/\f.e=264/\f.N 0=cH g/\f.N 4=I ((r+257:Sf):Sl)/\f.N 5=I ((WH+1:Sf):Sl)/\f.N 8=S/\f.N 10=WT/\f.N 11=K/\(((∃W,Xe= .ok W)/\a=W3)\/((∃e,Xe= .error e)/\a=0)))
  ⟨0,O,rfl,Z,by simpa using ZT,Xt,ZU,ZV,zaF,Z,Yy,V b,V c,V m,V p,V z,V U,V E,V W2,V WO,aa,.inr rfl⟩ ?_ ?_
 ·clear b c m p z U E W2 WO f Yy ZT ZU ZV;rintro za2 ZW WC f M ⟨a,K,rfl,w,Xj,Xl,X4,X5,X6,Xx,W4,b,c,m,p,z,U,E,W2,WO,YR,ZX⟩;by_cases zad:a<W3;rotate_left
  ·obtain rfl:a=W3:=Z;refine fR b WO YR (Z:¬((a:Sf):Sl)<((a:Sf):Sl)) ?_;refine ZW _ _ _ ⟨rfl,a,K,Xj,Xl,X4,X5,X6,Xx,W4,V b,V c,V m,V p,V z,V U,V E,?_⟩;cases Xe with
   |ok W=>exact .inl ⟨⟨W,rfl⟩,rfl⟩
   |error e=>
    rcases ZX with ⟨W,Yl⟩|u
    ·cases Yl
    exact .inr ⟨⟨e,rfl⟩,u⟩
  have WJ:((a:Sf):Sl)<((W3:Sf):Sl):=Z;cases Xe with
  |error e=>
   have zaG:a=0:=by
    rcases ZX with ⟨W,Yl⟩|u
    ·cases Yl
    exact u
   have B:¬((iw (.error e):Sf):Sl)=0:=fun Xo=>by have⟨q,X⟩:=W4.ke.1 Z;cases X
   refine jF b c WO YR (Sm WJ) @bP @cq W4.fA W4.mO B ?_;exact ZW _ _ _ ⟨rfl,a,K,Xj,Xl,X4,X5,X6,Xx,W4,V b,V c,V m,V p,V z,V U,V E,.inr ⟨⟨e,rfl⟩,zaG⟩⟩
  |ok W=>
  have B:((iw (.ok W):Sf):Sl)=0:=rfl;have ZY:=YP W rfl;simp(disch:=omega)only[aI,bD,bC,Sv,Su,↓SF,b,c,E,W2,WO,YR,Sm WJ,bP,cq,W4.fA,W4.mO,B,gh ec aQ lB];refine ll ec aQ o3 lB rfl Xj aa ai (by simp only[dG,b];decide) (by simp only[dG,b];decide) (by rfl) ai rfl Z Z Xl Xx ?_;intro za3 zaH zaI ZZ zaJ za4 XZ za5;have Z0:∀a,ak K=some a->R.Y<=a:=fun a w=>ag (Xl a w)
  have zaK:bf (l++Si a Xf)++[Value.int .i64 (Xf:Sf)]=bf (l++Si (a+1) Xf):=by
   rw[List.replicate_succ',<-List.append_assoc];exact ye _ [Xf]
  rw[zaK] at ZZ;have Z1:∀(Xm:Sj) (WZ:Sg Sj) (WX:Sf),ao M 1 Xm WX WZ->(∀a,ak Xm=some a->a<WV.Y)->ao zaI 1 Xm WX WZ:=fun Xm WZ WX Wz WU=>Wz.j XZ (fun a w e=>bq (WU a w) (Xl a e))
  refine e6 b YR ?_;exact aH (W3-(a+1)) Z ⟨a+1,zaH,rfl,Z,ZZ,zaJ,Z1 _ _ _ X4 (fun a w=>Yx.z a w),Z1 _ _ _ X5 (fun a w=>X0.z a w),X6.va XZ Z0,Ss Xx XZ.Y,W4.j XZ (Yr K Z0) Z,V b,V c,V m,V p,V z,V U,aa,V W2,V WO,aa,.inl ⟨W,rfl⟩⟩
 clear b c m p z U E W2 WO f;rintro WC f M ⟨rfl,a,K,Xj,Xl,X4,X5,X6,Xx,W4,b,c,m,p,z,U,E,(⟨⟨W,Yl⟩,rfl⟩|⟨⟨e,YK⟩,rfl⟩)⟩
 ·subst Yl;rw[mg] at Xv;have ZY:=YP W rfl;refine ax b ?_;exact aH W5 Z ⟨l++Si a Xf,K,by rw[St,SB];exact Xj,Xl,by rw[St,SB];omega,Je Xc ZY.2.2,X4,X5,X6,Xx,V b,V c,V m,V p,V z,V U,V E,.inl ⟨W,W4,Xv.symm,Z⟩⟩
 subst YK;rw[rI] at Xv;have zaL:ao M 1 K l.length (bf l):=by simpa using Xj
 refine ax b ?_;exact aH 0 Z ⟨l,K,zaL,Xl,ZC,Xc,X4,X5,X6,Xx,V b,V c,V m,V p,V z,V U,V E,.inr ⟨rfl,e,W4,Xv⟩⟩
end Go.Proofs.YtgpmffbleaphkaaGreat
namespace Go.Cl.Nf
open Go.Cl.Fx Go.Cl.Sto
theorem Jl (b:Sf)(D:Sg Sn)(M p:Sf)(P:Sg Sn):lI b D M p P=lJ (hh D (hh D (.ok p) 1) 2) fun r=>lJ (hJ b D M (fz D (hh D (.ok p) 1) 2) r P) fun y=> .ok (fz D (.ok p) 1,y.1,y.2):=by
 unfold lI;by_cases a:p+1<=8*D.length;rotate_left
 ·rw[hH a,mQ a];rfl
 rw[gp a,mP a,nz a];dsimp only;by_cases a:p+1+2<=8*D.length;rotate_left
 ·rw[hH a,mQ a];rfl
 rw[gp a,mP a,nz a,mg];dsimp only;cases hJ b D M (bZ D (p+1) 2) (p+1+2) P with
 |error e=>rfl
 |ok y=>rfl
theorem Jm {D:Sg Sn}:∀{r:Sg Sf} {p:Sf} {o a:Sg Sf} {q:Sf},lG D r p o= .ok (a,q)->p<=q
 |[],p,o,a,q,h=>by injection h with h;injection h with a h2;omega
 |i::r,p,o,b,q,h=>by
  unfold lG at h;cases a:dh D p 3 with
  |error e=>rw[a] at h;cases h
  |ok x=>rw[a] at h;have:=Jm h;omega
theorem Jn {D:Sg Sn}{s p:Sf}{l:Sg Sf}{x n q:Sf}(h:mN D s p l= .ok (x,n,q)):p<=q:=by
 unfold mN at h;split at h
 ·split at h
  ·cases h
  cases a:dh D p 2 with
  |error e=>rw[a] at h;cases h
  |ok y=>rw[a] at h;injection h with h;injection h with _ h;injection h with _ h;omega
 split at h
 ·cases a:dh D p 3 with
  |error e=>rw[a] at h;cases h
  |ok y=>rw[a] at h;injection h with h;injection h with _ h;injection h with _ h;omega
 split at h
 ·cases a:dh D p 7 with
  |error e=>rw[a] at h;cases h
  |ok y=>rw[a] at h;injection h with h;injection h with _ h;injection h with _ h;omega
 injection h with h;injection h with _ h;injection h with _ h;omega
theorem Jo {D:Sg Sn}{b:Sg Sf}{M:Sf}:∀{k p:Sf} {l a:Sg Sf} {q:Sf},hI D b M k p l= .ok (a,q)->p<=q
 |0,p,l,a,q,h=>by cases h
 |a+1,p,l,c,q,h=>by
  unfold hI at h;split at h
  ·injection h with h;injection h with _ h;omega
  cases a:dS D b p with
  |error e=>rw[a] at h;cases h
  |ok c=>
   have⟨d,e⟩:=c;rw[a] at h;dsimp only at h;cases b:mN D d e l with
   |error e=>rw[b] at h;cases h
   |ok c=>
    have⟨d,e,f⟩:=c;rw[b] at h;dsimp only at h;split at h
    ·cases h
    have:=Jo h;have:=Jn b;have:=pb a;omega
theorem R6 {b:Sf}{D:Sg Sn}{p a:Sf}{y:Sg Sf×Sg Sf}(h:lH b D p= .ok (y,a)):p<=a:=by
 unfold lH at h;cases a:mf D p with
 |error e=>rw[a] at h;cases h
 |ok c=>
  rw[a] at h;dsimp only at h;cases a:lG D (ej.take c.2.2) (p+14) (Si 19 0) with
  |error e=>rw[a] at h;cases h
  |ok o=>
   rw[a] at h;dsimp only at h;have:=Jm (a:=o.1) (q:=o.2) a;split at h
   ·cases a:hI D o.1 (c.1+c.2.1) b o.2 [] with
    |error e=>rw[a] at h;cases h
    |ok l=>
     rw[a] at h;dsimp only at h;have:=Jo (a:=l.1) (q:=l.2) a;split at h
     ·injection h with h;injection h with _ h;omega
     cases h
   cases h
theorem R7 {c:Sf}{D:Sg Sn}{M e p:Sf}{P:Sg Sn}{a:Sf}{d:Sg Sn}(h:hJ c D M e p P= .ok (a,d))(b:P.length<=M):p<=a:=by
 unfold hJ at h;split at h
 ·exact(I1 h b).1
 split at h
 ·exact(th h b).1
 split at h
 ·cases a:lH c D p with
  |error e=>rw[a] at h;cases h
  |ok c=>
   rw[a] at h;have:=R6 (y:=c.1) (a:=c.2) a;have:=(th h b).1;omega
 cases h
theorem Jp {b:Sf}{D:Sg Sn}{M p:Sf}{P:Sg Sn}{c a:Sf}{d:Sg Sn}(h:lI b D M p P= .ok (c,a,d))(e:P.length<=M):p+3<=a:=by
 unfold lI at h;cases a:dh D p 1 with
 |error c=>rw[a] at h;cases h
 |ok c=>
  rw[a] at h;dsimp only at h;cases a:dh D (p+1) 2 with
  |error c=>rw[a] at h;cases h
  |ok d=>
   rw[a] at h;dsimp only at h;cases a:hJ b D M d (p+3) P with
   |error b=>rw[a] at h;cases h
   |ok r=>
    rw[a] at h;injection h with h;injection h with F7 h;injection h with ey cS
    have:=R7 (a:=r.1) (d:=r.2) a e;omega
end Go.Cl.Nf
namespace Go.Proofs.YtgpmffbleaphkaaGreat
open Go.Cl Go.Cl.Rw Go.Cl.Sto Go.Cl.Fx Go.Cl.Nf
def Bg (s:J)(v:Sj)(a:J):Sp Sf (Sf×Sg Sn)->Prop
 | .ok (q,P)=>∃o,v= .tuple #[o,I ((q+7)/8:Sf),I 0]/\ao a 1 o P.length (aM P)/\ay s.Y o/\ad s.Y s a
 | .error e=>v= .tuple #[av,I 0,I (e:Sf)]/\ad s.Y s a
theorem R8
  (s:J) (M:Sj) (D:Sg Sn) (g:Sf) (Xi:az s 1 M D.length (aM D)) (WM:D.length<=100000000) (X:Sl) (Yv:X<=100000000) (X5:8*D.length+1<g):
  Runs Sh aw 93 [M,I X] s fun Xj X6=>Bg s Xj X6 (pc g D X.toNat):=by
 have⟨m,X7⟩:=aO X.toNat;rw[<-X7];have WV:m<=100000000:=Z;refine Runs.cS 121 Tryz.func93 rfl fun n a Xk E=> ?_
 refine aR a Xk (RA Xi.gA) (aK fun X8 Xl X9 Yw=> ?_);obtain⟨f,Xm⟩:∃WW,WW=s.Y:=⟨_,rfl⟩
 rw[<-Xm] at Xl;refine ch a E Xm.symm @SD.{0} @SR.{0} ((show(if X<0 then(0:Sl) else X)=((m:Sf):Sl) by split<;>omega)) @RB ?_;refine aK ?_;intro Ya Xn S Yx;obtain⟨d,Xo⟩:∃WW,WW=X8.Y:=⟨_,rfl⟩
 rw[<-Xo] at Xn;have WX:=X9.d S;have Xp:dQ s.Y Ya d f D 0 [] (m:Sf) M (av):=⟨(Xl.C S),Xn,(Xi.bT).A WX,.al,ay.al _,(fun e=>by cases e),(fun e=>by cases e),Z,Z,Z⟩;have⟨WN,Xq⟩:=aO (pc g D m);rw[<-Xq];refine aW a Xo.symm @SD.{0} @SR.{0} ?_;refine aZ.w (fun z n t=>s.Y<=t.Y/\ad s.Y s t/\n.e=121/\n.N 7=cH d/\((∃(v:Sf) (P:Sg Sn) (p Yb:Sj),ny g D m z v P=WN/\8*D.length<v+z/\v<=8*D.length/\P.length<=m/\dQ s.Y t d f D v P (m:Sf) p Yb)\/(z=0/\∃e,iR s.Y t d f e/\WN= .error e)))
  (fun z n t=>(z= .bF/\n.e=121/\∃(q:Sf) (P:Sg Sn) (o:Sj),WN= .ok (q,P)/\ao t 1 o P.length (aM P)/\ay s.Y o/\ad s.Y s t/\n.N 4=o/\n.N 5=I ((q+7)/8:Sf)/\n.N 6=I 0)\/(z= .bb 0/\n.e=121/\n.N 7=cH d/\ad s.Y s t/\∃e,iR s.Y t d f e/\WN= .error e))
  (k:=g) ⟨WX.Y,WX,V a,aa,.inl ⟨0,[],M,_,Xq.symm,Z,Z,SL _,Xp⟩⟩ ?_ ?_
 rotate_left
 ·clear a Xk E n Xp;rintro z n t (⟨rfl,a,q,P,o,Yc,Yd,Ye,Wy,Yf,Yg,Yh⟩|⟨rfl,a,b,Wy,e,l,WY⟩)
  ·refine eo a Yf Yg Yh @SW ?_;rw[Yc];exact⟨o,rfl,Yd,Ye,Wy⟩
  have⟨WZ,W0,r,W1,h⟩:=id l;refine fS a b @bP @cq (h.G.o dD 0 4) (h.E.o aB 2 4) @SW ?_;rw[WY];exact⟨rfl,Wy⟩
 rintro Yy Xr z n t ⟨Yi,Wy,a,b,(⟨v,P,p,o,O,Yz,Yj,WD,Q⟩|⟨rfl,e,l,WY⟩)⟩;rotate_left
 ·have⟨WZ,W0,r,W1,h⟩:=id l;have Xs:=h.k1;refine ch a b @bP @cq (h.G.o dD 0 4) (h.E.o aB 2 4) (Z:¬(e:Sl)=0) ?_;exact Xr _ _ _ (.inr ⟨rfl,V a,V b,Wy,e,l,WY⟩)
 obtain⟨W2,rfl⟩:∃W2,z=W2+1:=⟨z-1,Z⟩
 have Yk:eK s.Y d f D P (m:Sf) p o t (.ok v):=⟨Q,Yj⟩;have WO:=Q.G.o dD 0 4;have WQ:=Q.E.o aB 2 4;refine cl a b @bP @cq WO WQ ((pe s.Y t d f D P (.ok v) 1 _ p o Yk Z Z).b ?_);rintro _ Yl ⟨rfl,W3,W4⟩;obtain⟨Wz,Xt⟩:∃W5,W5=fz D (.ok v) 1:=⟨_,rfl⟩
 obtain⟨W6,Xu⟩:∃M,M=hh D (.ok v) 1:=⟨_,rfl⟩
 rw[<-Xt];rw[<-Xu] at W3;refine aW a b @bP W3.fA ((pe s.Y Yl d f D P W6 2 _ p o W3 Z Z).b ?_);rintro _ F ⟨rfl,G,W7⟩;obtain⟨y,Xv⟩:∃W5,W5=fz D W6 2:=⟨_,rfl⟩
 obtain⟨Ym,Xw⟩:∃M,M=hh D W6 2:=⟨_,rfl⟩
 rw[<-Xv];rw[<-Xw] at G;have WA:=Jl g D m v P;rw[<-Xt,<-Xu,<-Xv,<-Xw] at WA;have S:=Wy.a ((W4.a W7).qy.A Q.iu Q.ir Q.Q Yi);have w:s.Y<=F.Y:=S.Y;have YA:d<F.Y:=bq Q.G.n ((W4.a W7).1);have YB:f<F.Y:=bq Q.E.n ((W4.a W7).1);refine cl a b @bP @cq G.fA G.mO (Be (fun H K=>H.e=121/\H.N 7=cH d/\H.N 8=I (Wz:Sf)/\s.Y<=K.Y/\ad s.Y s K/\((∃(q:Sf) (T:Sg Sn) (r:Sj),lI g D m v P= .ok (Wz,q,T)/\dQ s.Y K d f D q T (m:Sf) p r)\/(∃e,lI g D m v P= .error e/\iR s.Y K d f e))) ?_ ?_)
 ·intro Yn W8;cases Ym with
  |error e=>
   have WB:¬((iw (.error e):Sf):Sl)=0:=fun YC=>by have⟨q,Yo⟩:=G.ke.1 Z;cases Yo
   refine c0 WB ?_;exact W8 _ _ ⟨V a,V b,aa,w,S,.inr ⟨e,WA,G⟩⟩
  |ok x=>
  have WB:((iw (.ok x):Sf):Sl)=0:=rfl;rw[mg] at WA;have c:=G.1;have W9:x<=8*D.length:=G.2;have WE:∀(H:an) (K:J) (WR:Sp Sf (Sf×Sg Sn)),hJ g D m y x P=WR->u9 s.Y d f D (m:Sf) p o F K WR->H.e=121->H.N 7=cH d->H.N 8=I (Wz:Sf)->Yn .b2 H K:=fun H K WR l j E WC Xx=>by
   rw[l] at WA;cases WR with
   |ok WG=>
    have⟨q,T⟩:=WG;have⟨r,A,U⟩:=j;have L:=U.A c.iu c.ir c.Q w;exact W8 _ _ ⟨E,WC,Xx,Ss w L.Y,S.a L,.inl ⟨q,T,r,WA,A⟩⟩
   |error e=>
    have⟨h,L⟩:=j;exact W8 _ _ ⟨E,WC,Xx,Ss w L.Y,S.a L,.inr ⟨e,WA,h⟩⟩
  by_cases WH:y=0
  ·have WI:((y:Sf):Sl)=0:=Z;refine fR a b WB (Sm WI) ((RR s.Y F d f D P x m p o c W9 WM WD WV w).b fun _ B j=> ?_);refine c0 a ?_;exact WE _ _ _ (by unfold hJ;rw[Sq WH]) j (V a) (V b) aa
  have WI:¬((y:Sf):Sl)=0:=Z;by_cases WS:y=1
  ·have R:((y:Sf):Sl)=1:=Z;refine fR a WB WI (Sm R) ((P5 F).b ?_);rintro _ B ⟨Xy,Xz,rfl,XW,l,Xa,Xb,W⟩;have WJ:dQ s.Y B d f D x P (m:Sf) p o:=⟨c.E.C W,c.G.C W,c.bT.A (W.q w),c.br.C W,c.Q,c.lF,c.qw,c.U,c.ir,c.iu⟩;have XX:∀i,ak o=some i->i<F.Y:=fun i u=>c.br.z i u
   have Xc:eI d f o B Xy iQ:=⟨by have e:iQ.length=288:=xI;rw[e];exact XW.c,fun i u=>⟨XW.z i u,ag (Xa i u),ag (Xa i u),fun e=>bq (XX i e) (Xa i u)⟩⟩;have Xd:eI d f o B Xz k0:=⟨l.c,fun i u=>⟨l.z i u,ag (Xb i u),ag (Xb i u),fun e=>bq (XX i e) (Xb i u)⟩⟩;have XY:=W.Y;refine fR a b @Az @AA ((Jb s.Y B d f D P x m g p o WJ W9 WM WD WV Z Z Xy Xz iQ k0 Xc Xd (by have e:iQ.length=288:=xI;omega) ai).b fun _ Xe j=> ?_);refine c0 a ?_;refine WE _ Xe (iP D m iQ k0 g x P) (by unfold hJ;rw[So WH,Sq WS]) ?_ (V a) (V b) aa;cases WK:iP D m iQ k0 g x P with
   |error e=>rw[WK] at j;exact⟨j.1,(W.q w).a j.2⟩
   |ok WG=>
    rw[WK] at j;have⟨r,E,WC⟩:=j;exact⟨r,E,cr.a ⟨XY,fun i u _ _ _=>W.N i u,.inl rfl⟩ WC⟩
  have R:¬((y:Sf):Sl)=1:=Z;by_cases Xf:y=2
  ·have Yp:((y:Sf):Sl)=2:=Z;refine ib a b WB WI R (Sm Yp) ((R5 s.Y F d f D P x m g p o c W9 WM X5 w).b fun Xj B WT=> ?_);cases WU:lH g D x with
   |error e=>
    rw[WU] at WT;obtain⟨⟨XZ,X0,rfl⟩,l,U⟩:=WT;have⟨WZ,W0,r,W1,h⟩:=id l;have Xs:=h.k1;refine je a b @Az @AA @bP @cq (h.G.o dD 0 4) (h.E.o aB 2 4) (Z:¬(e:Sl)=0) ?_;exact WE _ B (.error e) (by unfold hJ;rw[So WH,So WS,Sq Xf,WU]) ⟨l,U.A c.iu c.ir c.Q w⟩ (V a) (V b) aa
   |ok WG=>
    have⟨⟨Xg,Xh⟩,q⟩:=WG;rw[WU] at WT;obtain⟨XZ,X0,rfl,WJ,Yq,U,Xc,Xd,Yr,Ys⟩:=WT;have XY:=U.Y;refine kO a b @Az @AA @bP @cq (WJ.G.o dD 0 4) (WJ.E.o aB 2 4) ((Jb s.Y B d f D P q m g p o WJ Yq WM WD WV Z Z XZ X0 Xg Xh Xc Xd Yr Ys).b fun _ Xe j=> ?_);refine c0 a ?_;refine WE _ Xe (iP D m Xg Xh g q P) (by unfold hJ;rw[So WH,So WS,Sq Xf,WU]) ?_ (V a) (V b) aa;cases WK:iP D m Xg Xh g q P with
    |error e=>rw[WK] at j;exact⟨j.1,(U.A c.iu c.ir c.Q w).a j.2⟩
    |ok WG=>
     rw[WK] at j;have⟨r,E,WC⟩:=j;exact⟨r,E,U.a WC⟩
  refine kO a b WB WI R (Z:¬((y:Sf):Sl)=2) @bP G.fA ((pf s.Y F d f D P x 4 _ p o G ai).b ?_);rintro _ B ⟨Yt,Yu⟩;refine c0 a ?_;exact WE _ B (.error 4) (by unfold hJ;rw[So WH,So WS,So Xf]) ⟨Yt,Yu.qy.A c.iu c.ir c.Q w⟩ (V a) (V b) aa
 rintro n K ⟨a,b,X1,X2,L,(⟨q,T,r,WL,A⟩|⟨e,WL,l⟩)⟩;rotate_left
 ·have⟨WZ,W0,r,W1,h⟩:=id l;have Xs:=h.k1;rw[ny,WL] at O;refine eC a b @bP @cq (h.G.o dD 0 4) (h.E.o aB 2 4) (Z:¬(e:Sl)=0) ?_;exact aH 0 Z ⟨X2,L,V a,V b,.inr ⟨rfl,e,l,O.symm⟩⟩
 have WO:=A.G.o dD 0 4;have WQ:=A.E.o aB 2 4;have X3:=A4 WL WD;have YD:=Jp WL WD;rw[ny,WL] at O;dsimp only at O;by_cases X4:Wz=1
 ·have R:((Wz:Sf):Sl)=1:=Z;rw[Sq X4] at O;refine nT a b X1 @bP @rG @qv @cq WO (A.G.o cJ 1 4) (A.E.o aB 1 4) WQ (Sm R) A.br.m (Z:((q:Sf):Sl)+7=((q+7:Sf):Sl)) @kI @rA ?_;exact Xr _ _ _ (.inl ⟨rfl,V a,q,T,r,O.symm,A.br,A.Q,L,aa,aa,aa⟩)
 have R:¬((Wz:Sf):Sl)=1:=Z;rw[So X4] at O;refine kO a b X1 @bP @cq WO WQ R ?_;exact aH W2 Z ⟨X2,L,V a,V b,.inl ⟨q,T,p,r,O,Z,X3.1,X3.2.1,A⟩⟩
end Go.Proofs.YtgpmffbleaphkaaGreat
namespace Go.Cl.Nf
open Go.Cl.Fx Go.Cl.Sto
theorem Jq (a:Sg Sf):∀m n,1<=n->n<=m->∀r,r<a.count n->(cR a (n-1)).length+r<(cR a m).length/\(cR a m).getD ((cR a (n-1)).length+r) 0=(np a n).getD r 0
 |0,n,b,c,r,d=>Z
 |m+1,n,b,d,r,c=>by
  by_cases d:n=m+1
  ·subst d;simp only[cR,SN];refine⟨by rw[St,(A1 a (m+1))];omega,?_⟩;rw[Se,SG Z,Nat.add_sub_cancel_left,Se]
  have⟨d,e⟩:=Jq a m n b Z r c;simp only[cR];refine⟨by rw[St];omega,?_⟩;rw[Se,Sw d,<-Se,e]
theorem R9 (a:Sg Sf){n:Sf}(h:1<=n):gq a n=a.count n:=So Z
theorem Jr (a:Sg Sf)(n:Sf):(cR a (n+1)).length=(cR a n).length+a.count (n+1):=by
 simp only[cR];rw[St,A1]
theorem Js (a:Sg Sf):∀m,(cR a m).length<=a.length:=by
 have d:∀(L:Sg Sf) (m:Sf),(cR L m).length=(L.filter (fun x=>decide (1<=x/\x<=m))).length:=by
  intro L m
  induction m with
  |zero=>
   rw[show L.filter (fun x=>decide (1<=x/\x<=0))=[] from List.filter_eq_nil_iff.2 (fun x _=>by simp;omega)];rfl
  |succ m a=>
   rw[Jr,a];clear a
   induction L with
   |nil=>rfl
   |cons a r e=>
    simp only[List.filter_cons,List.count_cons];by_cases b:a=m+1
    ·subst b;rw[(Sx Z:(decide (1<=m+1/\m+1<=m))=false),(Sz Z:(decide (1<=m+1/\m+1<=m+1))=true),(show(m+1==m+1)=true by simp)];simp only[if_true,SD];rw[So ai];omega
    by_cases c:1<=a/\a<=m
    ·have f:1<=a/\a<=m+1:=Z;rw[(Sz c:(decide (1<=a/\a<=m))=true),(Sz f:(decide (1<=a/\a<=m+1))=true),(show(a==m+1)=false by simpa using b)];simp only[if_true,SD];rw[So ai];omega
    have f:¬(1<=a/\a<=m+1):=Z;rw[(Sx c:(decide (1<=a/\a<=m))=false),(Sx f:(decide (1<=a/\a<=m+1))=false),(show(a==m+1)=false by simpa using b)]
    simpa using e
 intro m;rw[d];exact List.length_filter_le _ _
theorem yf {P:SX}{t e:TypeId}{m:Sf}(b:P.underlying t=some (.array m e))(d:bc P e=some 1)(i o c:Sf){x:Sl}(f:0<=x)(g:x<m)(a:IntKind):
  eM P t (ab i o c) (.int a x)=some (ab i (o+x.toNat) c):=by
 obtain⟨k,rfl⟩:∃c:Sf,x=c:=⟨x.toNat,Z⟩
 show eM P t _ (.int a (Int.ofNat k))=_;unfold eM;rw[b];simp only[d,(show Nat.blt k m=true by rw[Nat.blt_eq];omega),if_true,SE,Sr]
end Go.Cl.Nf
namespace Go.Proofs.YtgpmffbleaphkaaGreat
open Go.Cl Go.Cl.Rw Go.Cl.Sto Go.Cl.Fx Go.Cl.Nf Go.Cl.Bt
def Jt:Sg Sf:=[144,184,175,176,166,180,177,167,179,178,168,182,187,183,170,186,185,181,169,145,114,150,171,165,174,117,112]
def jq (a:bg):Prop:=∀g,Jt.contains g=true->a.M g=none
theorem ct (a b:Sj):bm (.tuple #[a,b]) 0=some a:=rfl
theorem cu (a b:Sj):bm (.tuple #[a,b]) 1=some b:=rfl
theorem hg.mu {a:Sf}{s:J}{b c:Sf}{D:Sg Sn}{p:Sf}(d:hg a s b c D p):p<=8*D.length:=by
 obtain⟨q,a,b,h,-⟩:=d;have:=h.l;have:=h.iO.choose_spec.2.2.2;omega
theorem hg.n {c:Sf}{s:J}{a b:Sf}{D:Sg Sn}{p:Sf}(h:hg c s a b D p):a<s.Y/\b<s.Y/\c<=a/\c<=b/\a≠b:=by
 obtain⟨q,d,e,h,-⟩:=h;exact⟨h.F.n,h.iO.choose_spec.1.n,h.gn,h.me,h.U⟩
theorem hg.C {a:Sf}{s b:J}{c d:Sf}{D:Sg Sn}{p:Sf}(h:hg a s c d D p)(e:a<=s.Y)(k:ad s.Y s b):hg a b c d D p:=by
 have⟨q,f,g,h,i⟩:=h;exact⟨q,f,g,⟨h.iO.C e k,h.F.C k,h.l,h.qt,h.qu,h.oi,h.gn,h.me,h.U⟩,i⟩
def Sa (d a b:Sf)(D:Sg Sn)(p n:Sf)(s:J)(v:Sj)(c:J):Sp Sf Sf->Prop
 | .ok x=>v= .tuple #[I (x:Sf),I 0]/\hg d c a b D (p+n)/\bj a b s c
 | .error e=>e=2/\v= .tuple #[I 0,I 2]/\bj a b s c
theorem mR (l:jq aw)(b:Sf)(s:J)(a d:Sf)(D:Sg Sn)(p n:Sf)(h:hg b s a d D p)(m:b<=s.Y)(r:n<=16)(o:D.length<=4000000):
  Runs Sh aw 166 [jK a,I (n:Sf)] s fun v q=>Sa b a d D p n s v q (dh D p n):=by
 refine Runs.dY 13 Tryz.func166 rfl (l _ rfl) rfl rfl ?_;intro g e i;refine aR e (i 0:g.N 0=jK a) (i 1:g.N 1=I (n:Sf)) ((IQ b s a d D p (n:Sf) h m o).b ?_);rintro _ t ⟨rfl,j,k⟩;by_cases f:p+n<=8*D.length
 ·have c:oj D p (n:Sf):=⟨Z,Z,Z⟩;rw[Sq c,Sr] at j;refine b0 e (show om D p (n:Sf)=((bZ D p n:Sf):Sl) by unfold om;rw[Sq c,Sr]) (Z:¬((bZ D p n:Sf):Sl)<0) @SS ?_;rw[gp f];exact⟨rfl,j,k⟩
 have c:¬oj D p (n:Sf):=fun h=>f (ag h.2.2)
 refine b0 e (show om D p (n:Sf)= -1 by unfold om;rw[So c]) (Sm (show(-1:Sl)<0 by decide)) @SS ?_;rw[hH f];exact⟨rfl,rfl,k⟩
theorem Sb (k:jq aw)(b:Sf)(s:J)(a c:Sf)(D:Sg Sn)(p:Sf)(h:hg b s a c D p)(l:b<=s.Y)(m:D.length<=4000000):
  Runs Sh aw 184 [jK a] s fun v f=>v=I (if p+1<=8*D.length then((cD D p:Sf):Sl) else-1)/\(p+1<=8*D.length->hg b f a c D (p+1))/\bj a c s f:=by
 refine Runs.dY 5 Tryz.func184 rfl (k _ rfl) rfl rfl ?_;intro n g o;refine aq g (o 0:n.N 0=jK a) ((IQ b s a c D p 1 h l m).b ?_);rintro _ q ⟨rfl,i,j⟩;refine bO g @Tryz.results184 ?_;by_cases d:p+1<=8*D.length
 ·have e:oj D p 1:=⟨Z,Z,Z⟩;rw[Sq e] at i;refine⟨?_,fun _=>i,j⟩;unfold om;rw[Sq e,Sq d];show Value.int .i64 ((bZ D p 1:Sf):Sl)=_;rw[IU]
 have e:¬oj D p 1:=fun h=>d (ag h.2.2)
 refine⟨?_,fun h=>absurd h d,j⟩;unfold om;rw[So e,So d]
theorem Sc:bc Sh 208=some 16:=by kernel_rfl
theorem Ju:bc Sh 47=some 1:=by kernel_rfl
theorem Jv:c3 Sh 47=some false:=by kernel_rfl
theorem b1:bc Sh 210=some 17:=by kernel_rfl
theorem dT:c3 Sh 210=some true:=by kernel_rfl
theorem Jw:Sh.underlying 208=some (.array 16 3):=Tryz.underlying208
theorem Bh (i o c:Sf):aY Sh 210 (ab i o c) 0=some (ab i (o+0) c):=by
 unfold aY;rw[SO];simp[Sc]
theorem Bi (i o c:Sf):aY Sh 210 (ab i o c) 1=some (ab i (o+16) c):=by
 unfold aY;rw[SO];simp[Ju]
def bt (a:Sg Sf)(b:Sj):Sg Sj:=((List.range 16).map fun n=>Value.int .i64 ((gq a n:Sf):Sl))++[b]
theorem aP (a:Sg Sf)(b:Sj):(bt a b).length=17:=by simp[bt]
theorem rJ (a:Sg Sf)(b:Sj){n:Sf}(h:n<16):(bt a b).getD n undef=I ((gq a n:Sf):Sl):=by
 unfold bt;rw[Se,Sw (by simpa using h),List.getElem?_map,List.getElem?_range h];rfl
theorem vd (b:Sg Sf)(a:Sj):(bt b a).getD 16 undef=a:=by simp[bt,Se]
def mS (c d:Sf)(s:J)(a:Sj)(b:Sg Sf):Prop:=az s 1 a (cR b 15).length (bf (cR b 15))/\∀i,ak a=some i->i<s.Y/\i≠c/\i≠d
theorem Bj {s a:J}{z:Sf}{v:Sj}{n:Sf}{L:Sg Sj}(h:az s z v n L)(d:s.Y<=a.Y)(e:∀i,ak v=some i->i<s.Y->a.i.N i=s.i.N i):az a z v n L:=by
 cases h with
 |al=>exact .al
 |cI i b=>exact .cI i b
 |bu i b n f g r c j k l m o p q=>
  refine .bu i b _ f g _ (Sk c d) ?_ k l m o p q;simp only[J.t,e i rfl c];exact j
theorem mS.fm {b c:Sf}{s d:J}{e:Sj}{f:Sg Sf}(h:mS b c s e f)(k:bj b c s d):mS b c d e f:=
 ⟨Bj h.1 k.Y (fun i a g=>k.N i g (h.2 i a).2.1 (h.2 i a).2.2),fun i a=>⟨Sk (h.2 i a).1 k.Y,(h.2 i a).2⟩⟩
def Jx (d a b:Sf)(D:Sg Sn)(s:J)(v:Sj)(c:J):Sp Sf (Sf×Sf)->Prop
 | .ok (x,q)=>v= .tuple #[I (x:Sf),I 0]/\hg d c a b D q/\bj a b s c
 | .error e=>0<e/\v= .tuple #[I 0,I (e:Sf)]/\bj a b s c
theorem Bk (Wy:jq aw)(l:Sf)(s:J)(g i:Sf)(D:Sg Sn)(p:Sf)(B:hg l s g i D p)(WT:l<=s.Y)(WU:D.length<=4000000)(d:Sg Sf)(j:Sj)(WV:mS g i s j d)(Xc:d.length<=1000):
  Runs Sh aw 180 [jK g,.agg (bt d j).toArray] s fun v WW=>Jx l g i D s v WW (dS D d p):=by
 refine Runs.dY 54 Tryz.func180 rfl (Wy _ rfl) rfl rfl ?_;intro f e Wz;have u:f.N 0=jK g:=Wz 0;refine aR e (Wz 1:f.N 1= .agg (bt d j).toArray) @eP (aK fun WA w E Xd=> ?_);obtain⟨n,WB⟩:∃WX,WX=s.Y:=⟨_,rfl⟩
 rw[<-WB] at w;have q:=aP d j;have F:bj g i s WA:=⟨E.Y,fun WY WZ _ _=>E.N WY WZ⟩;have Xe:(2:Sf)^15=32768:=by decide
 have G:=Js d;refine aR e WB.symm q ?_;refine aZ.w (fun z f t=>∃a:Sf,z=15-a/\a<=15/\p+a<=8*D.length/\nw D d p (15-a) a=dS D d p/\eJ d a+gq d a<=dC D p a/\hg l t g i D (p+a)/\bj g i WA t/\ae t n (bt d j)/\mS g i t j d/\f.e=54/\f.N 0=jK g/\f.N 3=ab n 0 18/\f.N 6=I (dC D p a:Sf)/\f.N 7=I ((eJ d a+gq d a:Sf):Sl)/\f.N 8=I ((cR d a).length:Sf)/\f.N 9=I ((a:Sl)+1))
  (fun z f t=>(z= .bF/\f.e=54/\∃v H:Sj,f.N 4=v/\f.N 5=H/\Jx l g i D s (.tuple #[v,H]) t (dS D d p))\/(z= .bb 0/\f.e=54/\dS D d p= .error 4/\bj g i s t))
  ⟨0,rfl,Z,B.mu,rfl,by simp[eJ,gq,dC],B.C WT E,bj.p _ _ _,w,(WV.fm F),V e,V u,aa,aa,aa,aa,aa⟩ ?_ ?_
 ·have Xf:=B.n;rintro Xg K z f t ⟨a,rfl,Xh,Xi,h,Xj,W0,m,w,W1,e,u,L,WC,WD,WE,y⟩;by_cases Xk:a<15;rotate_left
  ·obtain rfl:a=15:=Z;refine aR e y (Z:¬((15:Sf):Sl)+1<=15) ?_;exact K _ _ _ (.inr ⟨rfl,V e,h.symm,F.a m⟩)
  have Xl:2^a<=2^15:=SM Z Z;have Xm:=x9 D p a;rw[show 15-a=(15-(a+1))+1 from Z,nw] at h;refine aW e u y (Sm (Z:(a:Sl)+1<=15)) ((Sb Wy l t g i D (p+a) W0 (ag m.Y:l<=t.Y) WU).b ?_);rintro _ WG ⟨rfl,A,o⟩;have WH:=F.a (m.a o);by_cases M:p+(a+1)<=8*D.length;rotate_left
  ·rw[So M] at h;rw[So (show¬p+a+1<=8*D.length from Z)];refine aq e (Sm (show(-1:Sl)<0 by decide)) ?_;refine K _ _ _ (.inl ⟨rfl,V e,_,_,aa,aa,?_⟩);rw[<-h];exact⟨ai,rfl,WH⟩
  rw[Sq M] at h;have A:=A M;rw[Sq (show p+a+1<=8*D.length from Z)];have WI:¬((cD D (p+a):Sf):Sl)<0:=Z;have Xn:n<WG.Y:=bq m.Y o.Y;have O:ae WG n (bt d j):=by
   have⟨WJ,W2,z,W3,W4⟩:=w;exact⟨Sk WJ o.Y,W2,z,by simp only[J.t,o.N n WJ Z Z];exact W3,W4⟩
  have P:=W1.fm o;have WK:=ya Sh 3 .u64 (x:=dC D p a) Z;have Q:=IV (x:=dC D p a) (a:=cD D (p+a)) Z (oa D (p+a));have WL:2*dC D p a+cD D (p+a)=dC D p (a+1):=rfl;rw[WL] at Q;have R:=ya Sh 3 .u64 (x:=eJ d a+gq d a) Z;rw[(show(eJ d a+gq d a)*2^1=eJ d (a+1) by simp only[eJ];omega)] at R;have W5:eJ d (a+1)<=dC D p (a+1):=by rw[<-WL];simp only[eJ];omega
  have WM:((dC D p (a+1):Sf):Sl)-((eJ d (a+1):Sf):Sl)=((dC D p (a+1)-eJ d (a+1):Sf):Sl):=Z;have Xo:=x9 D p (a+1);have Xp:2^(a+1)<=2^15:=SM Z Z;have W6:gq d (a+1)=d.count (a+1):=R9 d Z;have W7:((a:Sl)+1).toNat=a+1:=Z;have S:=yf Jw aQ n 0 18 (x:=(a:Sl)+1) Z Z .i64;rw[W7,Nat.zero_add] at S;have T:=O.B aB (a:=a+1) (c:=18) (by rw[q]) (by rw[q];omega);rw[rJ d j Z] at T;have WN:=O.B Jv (a:=16) (c:=18) (by rw[q]) (by rw[q];omega);rw[vd] at WN;have Xq:=G 15;have Xr:=G a;by_cases r:oo D d p (a+1)
  ·rw[Sq r] at h;have U:((dC D p (a+1)-eJ d (a+1):Sf):Sl)<((gq d (a+1):Sf):Sl):=ag r.2;have⟨W,WO⟩:=Jq d 15 (a+1) Z Z (dC D p (a+1)-eJ d (a+1)) (ag r.2);rw[SN] at W WO;have X:((cR d a).length:Sl)+((dC D p (a+1):Sf):Sl)-((eJ d (a+1):Sf):Sl)=(((cR d a).length+(dC D p (a+1)-eJ d (a+1)):Sf):Sl):=Z;have WQ:=P.1.r (k:= .i64) (x:=(((cR d a).length+(dC D p (a+1)-eJ d (a+1)):Sf):Sl)) eH aQ Z Z;rw[Sr] at WQ;have WR:=P.1.P aB W;rw[l3 W,WO] at WR;refine zJ e L WC WD WE y WI WK @j4 Q R WM @Bh @Bi S T (Sm U) WN X WQ WR ?_;refine K _ _ _ (.inl ⟨rfl,V e,_,_,aa,aa,?_⟩);rw[<-h];exact⟨rfl,A,WH⟩
  rw[So r] at h;have Xs:gq d (a+1)<=dC D p (a+1)-eJ d (a+1):=by
   rw[W6];rcases Nat.lt_or_ge (dC D p (a+1)-eJ d (a+1)) (d.count (a+1)) with WS|WS
   ·exact absurd ⟨W5,Z⟩ r
   exact WS
  have U:¬((dC D p (a+1)-eJ d (a+1):Sf):Sl)<((gq d (a+1):Sf):Sl):=Z;have X:((eJ d (a+1):Sf):Sl)+((gq d (a+1):Sf):Sl)=((eJ d (a+1)+gq d (a+1):Sf):Sl):=Z;have Xt:=Jr d a;have W8:(((cR d a).length:Sf):Sl)+((gq d (a+1):Sf):Sl)=(((cR d (a+1)).length:Sf):Sl):=Z;have Xu:=G (a+1);refine zI e L WC WD WE y WI WK @j4 Q R WM @Bh S T U X W8 ?_;exact aH (15-(a+1)) Z ⟨a+1,rfl,Z,Z,h,Z,A,m.a o,O,P,V e,V u,V L,aa,aa,aa,aa⟩
 rintro z f t (⟨rfl,e,v,H,W9,Xa,Xb⟩|⟨rfl,e,h,m⟩)
 ·refine b0 e W9 Xa @SU ?_;exact Xb
 refine bO e @SU ?_;rw[h];exact⟨ai,rfl,m⟩
theorem jP:c3 Sh 193=some false:=by kernel_rfl
theorem Jy:bc Sh 193=some 1:=by kernel_rfl
theorem jQ (i o c:Sf):aY Sh 196 (ab i o c) 0=some (ab i (o+0) c):=by
 unfold aY;rw[SH];simp[Jy]
theorem Jz (i o c:Sf):aY Sh 196 (ab i o c) 1=some (ab i (o+1) c):=by
 unfold aY;rw[SH];simp[aQ]
theorem rK (i o c:Sf):aY Sh 196 (ab i o c) 2=some (ab i (o+2) c):=by
 unfold aY;rw[SH];simp[dI]
abbrev fc (j:Sf):Sj:=ab j 0 4
structure cY (base:Sf) (s:J) (jr jx ic:Sf) (D:Sg Sn) (p:Sf) (P:Sg Sn) (M:Sl) (o:Sj):Prop where
 cD:hg base s jx ic D p
 F:ae s jr [jK jx,I M,o]
 br:ao s 1 o P.length (aM P)
 Q:ay base o
 tj:ak o≠some jr
 rL:ak o≠some jx
 rM:ak o≠some ic
 rN:jr≠jx
 rO:jr≠ic
 mT:base<=jr
structure eL (jr jx ic:Sf) (o:Sj) (s:J) (o' :Sj) (s' :J):Prop where
 Y:s.Y<=s'.Y
 N:∀i,i<s.Y->i≠jr->i≠jx->i≠ic->ak o≠some i->s'.i.N i=s.i.N i
 jB:ak o' =ak o\/∃i,ak o' =some i/\s.Y<=i
theorem eL.p (a b c:Sf)(o:Sj)(s:J):eL a b c o s o s:=⟨SI _,fun _ _ _ _ _ _=>rfl,.inl rfl⟩
theorem eL.a {b c d:Sf}{o g i:Sj}{s j l:J}(h:eL b c d o s g j)(k:eL b c d g j i l):eL b c d o s i l:=by
 refine⟨Ss h.Y k.Y,fun m n p r t u=> ?_,?_⟩
 ·rw[k.N m (Sk n h.Y) p r t ?_,h.N m n p r t u];rcases h.jB with e|⟨q,e,a⟩
  ·rw[e];exact u
  rw[e];intro v;injection v with v;omega
 rcases k.jB with e|⟨q,e,a⟩
 ·rcases h.jB with f|⟨q,f,a⟩
  ·exact .inl (by rw[e,f])
  exact .inr ⟨q,by rw[e,f],a⟩
 exact .inr ⟨q,e,Ss h.Y a⟩
theorem eL.A {b c d a:Sf}{o f:Sj}{s e:J}(h:eL b c d o s f e)(k:a<=b)(l:a<=c)(m:a<=d)(g:ay a o)(n:a<=s.Y):ad a s e:=
 ⟨h.Y,fun i p=>h.N i Z Z Z Z (fun j=>ag (g i j))⟩
theorem ix {a b c:Sf}{o:Sj}{s d:J}(h:bj b c s d):eL a b c o s o d:=⟨h.Y,fun i e _ f g _=>h.N i e f g,.inl rfl⟩
theorem eL.hX {a b c:Sf}{o d:Sj}{s t e:J}(h:eL a b c o s d t)(k:ad t.Y t e):eL a b c o s d e:=
 ⟨Ss h.Y k.Y,fun i f g j l m=>(k.N i (Sk f h.Y)).trans (h.N i f g j l m),h.jB⟩
theorem kf {s a:J}{i:Sf}{b:Sg Sj}(h:ae s i b)(c:s.Y<=a.Y)(d:a.i.N i=s.i.N i):ae a i b:=by
 have⟨e,f,z,g,j⟩:=h;exact⟨Sk e c,f,z,by simp only[J.t,d];exact g,j⟩
theorem rP {s a:J}{z:Sf}{v:Sj}{n:Sf}{L:Sg Sj}(h:ao s z v n L)(c:s.Y<=a.Y)(d:∀i,ak v=some i->i<s.Y->a.i.N i=s.i.N i):ao a z v n L:=by
 cases h with
 |al=>exact .al
 |bu i n e l b f g j=>
  refine .bu i _ e _ (Sk b c) ?_ g j;simp only[J.t,d i rfl b];exact f
theorem cY.ji {c:Sf}{s d:J}{e a b:Sf}{D P:Sg Sn}{p g:Sf}{M:Sl}{o:Sj}(h:cY c s e a b D p P M o)(j:hg c d a b D g)(k:bj a b s d):cY c d e a b D g P M o:=
 ⟨j,kf h.F k.Y (k.N e h.F.n h.rN h.rO),rP h.br k.Y (fun l i m=>k.N l m (fun f=>h.rL (by rw[i,f])) (fun f=>h.rM (by rw[i,f]))),h.Q,h.tj,h.rL,h.rM,h.rN,h.rO,h.mT⟩
theorem cY.C {a:Sf}{s b:J}{c d e:Sf}{D P:Sg Sn}{p:Sf}{M:Sl}{o:Sj}(h:cY a s c d e D p P M o)(f:a<=s.Y)(k:ad s.Y s b):cY a b c d e D p P M o:=
 ⟨h.cD.C f k,h.F.C k,h.br.C k,h.Q,h.tj,h.rL,h.rM,h.rN,h.rO,h.mT⟩
theorem mS.yg {e b c:Sf}{o l:Sj}{s f:J}{d:Sj}{g:Sg Sf}(h:mS b c s d g)(j:∀i,ak d=some i->i≠e/\ak o≠some i)(k:eL e b c o s l f):mS b c f d g:=
 ⟨Bj h.1 k.Y (fun i a m=>k.N i m (j i a).1 (h.2 i a).2.1 (h.2 i a).2.2 (j i a).2),fun i a=>⟨Sk (h.2 i a).1 k.Y,(h.2 i a).2⟩⟩
def pk (b c d e:Sf)(D:Sg Sn)(M:Sl)(o:Sj)(s:J)(v:Sj)(a:J):Sp Sf (Sf×Sg Sn)->Prop
 | .ok (q,P)=>v=I 0/\∃f,cY b a c d e D q P M f/\eL c d e o s f a
 | .error e=>0<e/\v=I (e:Sf)/\ad b s a
theorem Bl (T:jq aw)(e:Sf)(s:J)(b l m:Sf)(D P:Sg Sn)(r t:Sf)(M:Sl)(WI:t=M.toNat)(u:Sn)(v:Sj)(h:cY e s b l m D r P M v)(w:e<=s.Y)(WJ:P.length<=100000000):
  Runs Sh aw 177 [fc b,.int .u8 u.toNat] s fun U W=>pk e b l m D M v s U W (if t<=P.length then .error 7 else .ok (r,P++[u])):=by
 have z:=h.cD.n;refine Runs.dY 25 Tryz.func177 rfl (T _ rfl) rfl rfl ?_;intro A d B;have E:A.N 0=fc b:=B 0;have x:A.N 1= .int .u8 u.toNat:=B 1;have WK:=h.F.o jP 0 4;have F:=h.F.o aB 1 4;have G:=h.F.o cJ 2 4;by_cases H:t<=P.length
 ·have X:(P.length:Sl)>=M:=Z;refine pS d E @Jz @rK F G (h.br.c.g SA) h.br.m (Sm X) @SV ?_;rw[Sq H];exact⟨ai,rfl,ad.p _ _⟩
 simp(disch:=omega)only[aI,bD,bB,bC,Sv,Su,↓SF,d,E,x,Jz,rK,F,G,h.br.c.cd SA,h.br.m,eq_false (show¬(P.length:Sl)>=M by omega),gh SA bw dN];refine ll SA bw jg dN rfl h.br aa ai (by simp only[dG,d];decide) (by simp only[dG,d];decide) (by rfl) ai rfl Z Z h.Q w ?_;intro WL K Wy L Wz O f Q;have g:∀n,n<s.Y->ak v≠some n->ak K≠some n:=fun n WM g=>by
  rcases Q with j|⟨y,j,R⟩
  ·rw[j];exact g
  rw[j];intro q;injection q with q;omega
 have S:=g b h.F.n h.tj;refine aq d @rK ?_;refine db dI (h.F.j f h.tj) rfl aA L.c.aN ?_;intro WA WB p k;simp(disch:=omega)only[aI,cO,b6,Sv,↓SF,d,SV];rw[So H];have WN:=O.a (ad.f p k h.mT);have⟨q,WC,WD,a,WE⟩:=h.cD;have WG:hg e WA l m D r:=by
  exact⟨q,WC,WD,⟨((a.iO.j w h.Q f h.rM).j (Ss w O.Y:e<=Wy.Y) (kd h.mT) (aF.f (i:=b) (o:=0) (c:=some 3) p k) (iq h.rO)),(a.F.j f h.rL).j (aF.f (i:=b) (o:=0) (c:=none) p k) (fun j=>h.rN (by injection j)),a.l,a.qt,a.qu,a.oi,a.gn,a.me,a.U⟩,WE⟩
 refine⟨rfl,K,⟨WG,WB,?_,Wz,S,(g l z.1 h.rL),(g m z.2.1 h.rM),h.rN,h.rO,h.mT⟩,⟨ag f.Y,fun y R x _ _ WH=>by rw[k y x,f.N y R WH],Q⟩⟩;rw[km,St];exact L.f p k S
end Go.Proofs.YtgpmffbleaphkaaGreat