import Derived.Test.YtgpmffbleaphkaaGreatLrD
open Go.Proofs.Tryz renaming underlying27->Se,prog->Sl,results22->Sx,underlying23->Sz,underlying24->SA,results9->SL
open List renaming getElem_mem->Sf,map_map->So,mem_map->Sp,length_map->Sr,take_succ_eq_append_getElem->Sv,append_assoc->Sy,mem_iff_getElem->SD,find?_cons->SG,all_cons->SK,all_nil->SP
open _root_ renaming List->Sg,decide_eq_true->Sj,Int->Sk,if_pos->Sn,Nat->Sq,decide_eq_false->Ss,if_neg->St,UInt8->Sw,of_decide_eq_true->SF,absurd->SI,reduceIte->SM,eq_true->SN
open Nat renaming le_refl->Sh,add_zero->Su,lt_succ_iff_lt_or_eq->SB,reduceEqDiff->SC,reduceLT->SE,not_lt_zero->SH,reduceSub->SJ,le_trans->SO
open Go renaming Value->Si
open Int renaming toNat_natCast->Sm
set_option maxHeartbeats 16000000
set_option linter.unusedSimpArgs false
set_option linter.unusedVariables false
set_option maxRecDepth 100000
namespace Go.Proofs.YtgpmffbleaphkaaGreat
open Go.Cl Go.Lib Go.Cl.Ch
theorem acp (T U:Sq->Prop)(s:J)(a E:cz)(w:Si)(y:Sg Si)(B:Si)(W6:Sg Si)(WJ:c2 T s w y B W6 a)
  (F:Si) (G:Sg Si) (H:Si) (W7:Sg Si) (WK:c2 U s F G H W7 E) (W:uG a) (X:uG E) (W8:∀i (h:i<a.aj.length),a.aj[i].1=((i+1:Sq):Sk)) (W9:∀i (h:i<E.aj.length),E.aj[i].1=((i+1:Sq):Sk)):
  Runs Sl aw 22 [.agg (bk a w y B).toArray,.agg (bk E F G H).toArray] s (tx s a E cQ):=by
 refine Runs.gZ fun Xk K=> ?_
 have Xl:=X.aG;have m:=WJ.a7.aG;have r:=WK.a7.aG;have Xm:=W.aG;have Wy:∀L,bn (.bool L) (.bool L)=true:=fun L=>by cases L<;>rfl
 refine Runs.ef 57 Tryz.func22 rfl fun f b=> ?_
 refine ax b (aK fun u Xa WL Xn=> ?_);refine aq b (c9 (D:=a) (mv:=w) (iv:=B) m) (aK fun WM M Wz Xo=> ?_);have M:ae WM u.Y (bk E F G H):=M;have Xp:=WL.Y;have Xq:=Wz.Y;have WA:=WL.d Wz;have WN:=(Xa:ae u s.Y (bk a w y B)).C Wz;have WO:=WJ.C WA;have WQ:=WK.C WA;refine bp b (c9 (D:=E) (mv:=F) (iv:=H) r) @lx (lz WN m) (lz M r) ((wZ _ a.a7 E.a7 (Sh _) T U WM y G WO.a7 WQ.a7 W.a7 X.a7).b ?_);rintro _ e ⟨⟨WB,rfl,WR⟩,n⟩;have WC:=WA.d n;cases WB with
 |false=>
  refine oR b @Sx ?_;rw[K];exact⟨.ko (fun h=>by have:=WR.2 h.1;cases this),WC⟩
 |true=>
 have Xr:=n.Y;have WD:=WO.C n;have WE:=WQ.C n;have WG:=WN.C n;have WH:=M.C n;by_cases WI:((a.aj.length:Sq):Sk)=((E.aj.length:Sq):Sk);rotate_left
 ·refine sx b @dA (dB WG m) (dB WH r) (WD.aj.g Se) (WE.aj.g Se) WI @Sx ?_;rw[K];exact⟨.ko (fun h=>WI (by rw[h.2.1])),WC⟩
 refine eC b WI @dA (dB WG m) (dB WH r) (WD.aj.g Se) (WE.aj.g Se) ?_;refine aZ.w (fun z f t=>∃i:Sq,z=a.aj.length-i/\i<=a.aj.length/\(∀c,c<i->∀(h:c<a.aj.length) (o:c<E.aj.length),cQ a.aj[c].2 E.aj[c].2)/\ad e.Y e t/\f.e=57/\f.N 2=ab s.Y 0 10/\f.N 3=ab u.Y 0 10/\f.N 5=I (i:Sq))
  (fun z f t=>(z= .bF/\(¬∀c,∀(h:c<a.aj.length) (o:c<E.aj.length),cQ a.aj[c].2 E.aj[c].2)/\ad e.Y e t/\f.e=57/\f.N 4= .bool false)\/(z= .bb 0/\(∀c,∀(h:c<a.aj.length) (o:c<E.aj.length),cQ a.aj[c].2 E.aj[c].2)/\ad e.Y e t/\f.e=57))
  ⟨0,rfl,Z,fun c h=>Z,ad.p _ _,V b⟩ ?_ ?_
 ·clear b f;rintro Xs WS z f t ⟨i,rfl,Xt,O,d,b⟩;have P:=WD.C d;have WT:=WE.C d;have Q:=WG.C d;have WU:=WH.C d;by_cases g:i<a.aj.length;rotate_left
  ·obtain rfl:i=a.aj.length:=Z;refine bp b @dA (dB Q m) (P.aj.g Se) (Z:¬((a.aj.length:Sq):Sk)<((a.aj.length:Sq):Sk)) ?_;exact WS _ _ _ (.inr ⟨rfl,fun c h o=>O c h h o,d,V b⟩)
  refine bp b @dA (dB Q m) (P.aj.g Se) (SN (Z:(i:Sk)<(a.aj.length:Sk))) (LB.T 0 0 fun WV Xu R _ v _=> ?_);have p:=P.C v;have q:=WT.C v;have WW:=p.aj.r (k:= .i64) (x:=(i:Sk)) Se eG Z Z;have WX:=q.aj.r (k:= .i64) (x:=(i:Sk)) Se eG Z Z;rw[Sm] at WW WX;have⟨Xb,Xc⟩:=ly p.aj g;have l:i<E.aj.length:=Z;have⟨Xd,Xe⟩:=ly q.aj l;obtain⟨Xf,Xv,WY,-⟩:=mI (p.dz.H i g);obtain⟨Xg,Xw,WZ,-⟩:=mI (q.dz.H i l);have W0:=p.aj.fE aB g (j:=0) Z;have W1:=q.aj.fE aB l (j:=0) Z;rw[Su,Xf,W8 i g] at W0;rw[Su,Xg,W9 i l] at W1;simp(disch:=omega)only[b,aI,bD,fi,dy,SJ,bB,SE,SC,↓SM,dA,(LA.D R Q.n),((fun S=>LA.hT (A:=WV) (i:=u.Y) (R _ WU.n)):∀S,LA.c4 WV (some (ab u.Y S 10))=true),dB (Q.C v) m,dB (WU.C v) r,p.aj.m,q.aj.m,WW,WX,Xb,Xc,Xd,Xe,(p.aj.hC bV aL g (j:=1) Z),(q.aj.hC bV aL l (j:=1) Z),W0,W1,WY.m,WZ.m,fT,LA.g0 P.aj R g,LA.g0 WT.aj R l,Wy];refine(wZ _ a.aj[i].2 E.aj[i].2 (Sh _) T U (aS t 0) _ _ WY WZ (W.aj _ (Sf g)) (X.aj _ (Sf l))).b ?_;rintro _ Xx ⟨⟨WB,rfl,W2⟩,W3⟩;have Xy:=W3.Y;have W4:=d.a ((v.d W3).q (d.Y));refine⟨fun h=>h.elim,?_⟩;cases WB with
  |false=>
   refine e6 b Wy ?_;exact WS _ _ _ (.inl ⟨rfl,fun h=>(by have:=W2.2 (h i g l);cases this),W4,V b⟩)
  |true=>
  refine e6 b Wy ?_;exact aH (a.aj.length-(i+1)) Z ⟨i+1,rfl,Z,fun c Xh h o=>by
   rcases SB.mp Xh with Xi|rfl
   ·exact O c Xi h o
   exact W2.1 rfl,W4,V b⟩
 have W5:∀t,ad e.Y e t->ad s.Y s t:=fun t S=>WC.d S
 rintro z f t (⟨rfl,Xj,d,b⟩|⟨rfl,O,d,b⟩)
 ·refine bO b @Sx ?_;rw[K];exact⟨.ko (fun h=>Xj h.2.2),W5 _ d⟩
 refine bO b @Sx ?_;rw[K];exact⟨.mD ⟨WR.1 rfl,Z,O⟩,W5 _ d⟩
theorem yz (D:cz)(r:Sg Sk):∀i (h:i<(ew D r).aj.length),(ew D r).aj[i].1=((i+1:Sq):Sk):=by
 intro a h;have b:a<(ga D.aj r).length:=h;show(ga D.aj r)[a].1=_;rw[yt (show a<r.length by rw[ox] at b;exact b) b]
theorem acq (W X:Sq->Prop)(s:J)(A B:cz)(b:Si)(h:Sg Si)(c:Si)(w:Sg Si)(d:Si)(j:Sg Si)(e:Si)(x:Sg Si)(y:c2 W s b h c w A)(z:c2 X s d j e x B)(E:fv A)(F:fv B)
  (o:Sq) (k:Sg Sk) (G:c5 A.aj o (bG A.a7) [] k) (Wy:o<=10000000) (p:Sq) (l:Sg Sk) (H:c5 B.aj p (bG B.a7) [] l) (Wz:p<=10000000):
  Runs Sl aw 7 [.agg (bk A b h c).toArray,.agg (bk B d j e).toArray] s (tx s (ew A k) (ew B l) cQ):=by
 have K:=y.a7.aG;have L:=z.a7.aG;refine Runs.ef 10 Tryz.func7 rfl fun WS a=> ?_
 refine ax a (aK fun q WA M WT=> ?_);refine aq a (c9 (D:=A) (mv:=b) (iv:=c) K) (aK fun O WB r WU=> ?_);have WV:=M.Y;have WW:=r.Y;have t:=M.d r;refine aq a (c9 (D:=B) (mv:=d) (iv:=e) L) (LB.T 3 0 fun WX u P _ f WY=> ?_);have Q:=(y.fF.C t).C f;have WC:=((WA:ae q s.Y (bk A b h c)).C r).C f;have WD:=(WB:ae O q.Y (bk B d j e)).C f;refine fR a (LA.D (i:=s.Y) P) (dV WC K) Q.m ((yv _ (aS O 0) A b h c w Q E o k G Wy).b ?_);rintro _ WE ⟨WG,WH,WI,WJ,rfl,WK,g⟩;have WZ:=g.Y;refine⟨fun _=>LA.ar.R u (g.q Z),?_⟩;have R:=((z.fF.C t).C f).C g;refine fR a (LA.D (i:=q.Y) P) (dV (WD.C g) L) R.m ((yv _ WE B d j e x R F p l H Wz).b ?_);rintro _ WL ⟨WM,WN,WO,WQ,rfl,WR,m⟩;have W0:=m.Y;refine⟨fun _=>LA.ar.R u (m.q Z),?_⟩;obtain⟨S,-⟩:=k7 G;obtain⟨T,-⟩:=k7 H;refine(acp _ _ WL (ew A k) (ew B l) WG WH WI WJ (WK.C m) WM WN WO WQ WR (mW E S.kg S.kr) (mW F T.kg T.kr) (yz _ _) (yz _ _)).b ?_;rintro _ W1 ⟨U,v⟩;have W2:=v.Y;obtain⟨W3,rfl,-⟩:=id U;refine⟨fun _=>LA.ar.R u (v.q Z),?_⟩;refine re a ((fun n=>by cases n<;>rfl):∀n,bn (.bool n) (.bool n)=true) @Tryz.results7 ?_;exact⟨U,((t.d f).a (g.q Z)).a ((m.d v).q Z)⟩
end Go.Proofs.YtgpmffbleaphkaaGreat
namespace Go.Cl
def nF (m:Sk):Sq->O->O
 |0,o=>o
 |q+1,.au k n b l d=> .au k (if k=9 then n+m else n) b (l.map (nF m q)) (d.map fun e=>(e.1,nF m q e.2))
noncomputable def cK (m:Sk)(o:O):O:=nF m (SizeOf.sizeOf o) o
theorem yA (m:Sk):∀(q a:Sq) (o:O),SizeOf.sizeOf o<=q->SizeOf.sizeOf o<=a->nF m q o=nF m a o
 |0,_,o,h,_=>ag o.g5
 |_+1,0,o,_,h=>ag o.g5
 |q+1,h+1,.au a c e i j,o,p=>by
  unfold nF;rw[lL (l:=i) (fun x o=>yA m q h x (ag (O.gD (k:=a) (n:=c) (b:=e) (d:=j) o)) (ag (O.gD (k:=a) (n:=c) (b:=e) (d:=j) o))),
   lL (l:=j) (f:=fun j=>(j.1,nF m q j.2)) (g:=fun j=>(j.1,nF m h j.2)) (fun o j=>by rw[yA m q h o.2 (ag (O.fs (k:=a) (n:=c) (b:=e) (l:=i) j)) (ag (O.fs (k:=a) (n:=c) (b:=e) (l:=i) j))])]
theorem pA (m k a:Sk)(c:Sg Sw)(e:Sg O)(h:Sg (Sg Sw×O)):cK m (.au k a c e h)= .au k (if k=9 then a+m else a) c (e.map (cK m)) (h.map fun i=>(i.1,cK m i.2)):=by
 unfold cK;obtain⟨q,i⟩:∃j,SizeOf.sizeOf (O.au k a c e h)=j+1:=⟨SizeOf.sizeOf (O.au k a c e h)-1,ag ((O.au k a c e h).g5)⟩
 rw[i]
 conv=>lhs;unfold nF
 rw[lL (l:=e) (fun x i=>yA m q _ x (ag (O.gD (k:=k) (n:=a) (b:=c) (d:=h) i)) (Sh _)),
  lL (l:=h) (f:=fun h=>(h.1,nF m q h.2)) (g:=fun h=>(h.1,nF m (SizeOf.sizeOf h.2) h.2)) (fun h i=>by rw[yA m q _ h.2 (ag (O.fs (k:=k) (n:=a) (b:=c) (l:=e) i)) (Sh _)])]
theorem acr (m:Sk):cK m O.ck=O.ck:=by
 show cK m (.au 0 0 [] [] [])=_;rw[pA];rfl
theorem acs (m:Sk)(o:O):(cK m o).a9=o.a9:=by
 cases o;rw[pA];rfl
theorem acu (m:Sk)(o:O):eZ (cK m o)=(eZ o).map (cK m):=by
 cases o with
 |au k n b l d=>
  rw[pA,mE,mE];split
  ·rfl
  split
  ·rw[So,So];rfl
  rfl
theorem KS (m:Sk):∀(a:Sq) (o:O),SizeOf.sizeOf o<=a->bG (cK m o)=(bG o).map (·+m):=by
 intro a
 induction a with
 |zero=>intro o h;have:=o.g5;omega
 |succ a b=>
  intro o h;by_cases a:o.a9=9
  ·cases o with
   |au k n c l d=>
    have a:k=9:=a;subst a;rw[pA,Sn rfl,sI rfl,sI rfl];rfl
  rw[w2 (by rw[acs];exact a),w2 a,acu,List.map_flatMap,List.flatMap_map];exact Kh (fun x a=>b x (ag (sG a)))
theorem yB {m n:Sk}{r:Sg Sk}:n+m∈r.map (·+m)↔n∈r:=by
 rw[Sp];exact⟨fun⟨a,b,c⟩=>by rw[<-show a=n from Z];exact b,fun h=>⟨n,h,rfl⟩⟩
theorem KT (m:Sk):∀(r:Sg Sk) (n:Sk),jT (r.map (·+m)) (n+m)=jT r n
 |[],_=>rfl
 |a::r,n=>by
  show(if a+m=n+m then(1:Sk) else if jT (r.map (·+m)) (n+m)=0 then 0 else jT (r.map (·+m)) (n+m)+1)=(if a=n then(1:Sk) else if jT r n=0 then 0 else jT r n+1);rw[KT m r n];by_cases e:a=n
  ·rw[Sn Z,Sn e]
  rw[St Z,St e]
theorem KU (r:Sg Sk)(m:Sk):∀(A:Sq) (B:Sk) (o:O),SizeOf.sizeOf o<=A->fj B o->cB (r.map (·+m)) (cK m o)=cB r o:=by
 intro D
 induction D with
 |zero=>intro Wy E Wz;have:=E.g5;omega
 |succ WA t=>
  intro WB F WC G;cases F with
  |au c q u s a=>
   obtain⟨H,K,-,-,-,-,-,-,-,-,-,L,M⟩:=lr.mp G;rw[pA,pt,pt];by_cases e:c=9
   ·rw[Sn e,Sn e,Sn e,KT];by_cases p:q∈r
    ·rw[Sn p,Sn (yB.2 p)]
    rw[St p,St (fun P=>p (yB.1 P))]
   rw[St e,St e,St e];by_cases h:c=6
   ·rw[Sn h,Sn h,So,lL (l:=s) (f:=cB (r.map (·+m))∘cK m) (g:=cB r) (fun WD v=>by
     obtain⟨Q,R,rfl⟩:=SD.1 v;exact t _ _ (ag (O.gD (k:=c) (n:=q) (b:=u) (d:=a) v)) ((L h).2 Q R).2)]
   rw[St h,St h];by_cases i:c=7\/c=8
   ·rw[Sn i,Sn i,So,lL (l:=a) (f:=(fun w=>(w.1,cB (r.map (·+m)) w.2))∘fun x=>(x.1,cK m x.2)) (g:=fun y=>(y.1,cB r y.2)) (fun WE z=>by
     obtain⟨j,S,rfl⟩:=SD.1 z;show(a[j].1,cB (r.map (·+m)) (cK m a[j].2))=(a[j].1,cB r a[j].2);rw[t _ _ (ag (O.fs (k:=c) (n:=q) (b:=u) (l:=s) z)) ((M i).2.1 j S).2])]
   rw[St i,St i];have T:s=[]:=Classical.byContradiction fun U=>h (H U)
   have W:a=[]:=Classical.byContradiction fun X=>i (K X)
   subst T;subst W;rfl
noncomputable def iz (m:Sk)(D:Sg (Sk×O)):Sg (Sk×O):=D.map fun e=>(e.1+m,cK m e.2)
theorem vB (m:Sk):∀(D:Sg (Sk×O)) (n:Sk),cC (iz m D) (n+m)=(cK m (cC D n).1,(cC D n).2)
 |[],n=>by
  show(O.ck,false)=(cK m O.ck,false);rw[acr]
 |e::D,n=>by
  have a:=vB m D n;unfold cC iz at a|-
  rw[List.map_cons,SG,SG];by_cases q:e.1=n
  ·rw[show((e.1+m,cK m e.2).1==n+m)=true by simp[q],show(e.1==n)=true by simp[q]]
  rw[show((e.1+m,cK m e.2).1==n+m)=false by simp;omega,show(e.1==n)=false by simp[q]];exact a
theorem acv (m:Sk){D:Sg (Sk×O)}{k:Sq}{a l r:Sg Sk}(h:c5 D k a l r):c5 (iz m D) k (a.map (·+m)) (l.map (·+m)) (r.map (·+m)):=by
 induction h with
 |l1 l=>exact .l1 _
 |e3 b n c l r h w a=>
  refine .e3 _ _ _ _ _ ?_ a;rw[vB];exact h.imp (fun q=>q) yB.2
 |jR d n e l r a b w c=>
  refine .jR _ _ _ _ _ (by rw[vB];exact a) (fun q=>b (yB.1 q)) ?_;rw[vB,KS m _ _ (Sh _)]
  simpa using c
theorem acw (m:Sk){D:Sg (Sk×O)}{r:Sg Sk}(c:∀e∈D,fj 28 e.2)(d:∀n∈r,(cC D n).2=true):ga (iz m D) (r.map (·+m))=ga D r:=by
 refine List.ext_getElem (by rw[ox,ox,Sr]) (fun i e a=> ?_);have b:i<r.length:=by rw[ox] at a;exact a
 rw[yt (show i<(r.map (·+m)).length by rw[Sr];exact b) e,yt b a,List.getElem_map,vB];obtain⟨e,a,-,f⟩:=rV (d _ (Sf b));rw[show cB (r.map (·+m)) (cK m (cC D r[i]).1)=cB r (cC D r[i]).1 from KU r m _ 28 _ (Sh _) (by rw[f];exact c e a)]
theorem KV:∀(K:Sg (Sg Sw)) (d:Sg (Sg Sw×O)),(ep d (fU K)).length<=d.length
 |[],_=>Sh _
 |k::K,d=>by
  refine SO (KV K (hV d (k,O.ck))) ?_;have a:=wW k (d.take (gk d k));have b:=wW k (d.drop (gk d k));have c:=z0 d k;rw[List.length_take] at a;rw[List.length_drop] at b;show(jh k (d.take (gk d k))++(if O.ck.a9=0 then [] else [(k,O.ck)])++jh k (d.drop (gk d k))).length<=d.length;rw[Sn (show O.ck.a9=0 from rfl),List.append_nil,List.length_append];omega
theorem KW (m:Sk):∀(q:Sq) (o:O),SizeOf.sizeOf o<=q->cn (cK m o)=cn o:=by
 intro r
 induction r with
 |zero=>intro s A;have:=s.g5;omega
 |succ B a=>
  intro t D;cases t with
  |au c e h i j=>
   rw[pA,nq,nq,So,So,lL (l:=i) (f:=cn∘cK m) (g:=cn) (fun x u=>a x (ag (O.gD (k:=c) (n:=e) (b:=h) (d:=j) u))),
    lL (l:=j) (f:=(fun v:Sg Sw×O=>cn v.2)∘fun p:Sg Sw×O=>(p.1,cK m p.2)) (g:=fun w:Sg Sw×O=>cn w.2) (fun y z=>a y.2 (ag (O.fs (k:=c) (n:=e) (b:=h) (l:=i) z)))]
theorem acx (m:Sk)(o:O):(cK m o).cj=o.cj:=by
 cases o;rw[pA];rfl
theorem BI (m:Sk){o:O}(h:bd o):bd (cK m o):=by
 induction h with
 |au a b c d _ _ e f=>
  rw[pA];refine .au a (by rw[Sr];exact b) (by rw[Sr];exact c) (fun b a=> ?_) (fun x b=> ?_) (fun g c=> ?_)
  ·obtain⟨y,g,rfl⟩:=Sp.1 a;exact d y g
  ·obtain⟨y,a,rfl⟩:=Sp.1 b;exact e y a
  obtain⟨y,a,rfl⟩:=Sp.1 c;exact f y a
noncomputable def tA (m:Sk)(D:cz):cz:=⟨D.mF,D.eb,D.mG,cK m D.a7,iz m D.aj⟩
theorem acy (m:Sk){D:cz}(h:fv D):fv (tA m D):=by
 have a:∀e∈iz m D.aj,∃y∈D.aj,e=(y.1+m,cK m y.2):=fun e b=>by
  obtain⟨y,c,rfl⟩:=Sp.1 b;exact⟨y,c,rfl⟩
 refine⟨h.eb,by show(iz m D.aj).length<=70;unfold iz;rw[Sr];exact h.aG,BI m h.a7,fun e b=> ?_,?_,fun c d=> ?_⟩
 ·obtain⟨y,i,rfl⟩:=a e b;exact BI m (h.aj y i)
 ·show cn (cK m D.a7)+((iz m D.aj).map fun e=>cn e.2).sum<=20000;unfold iz;rw[KW m _ _ (Sh _),So,lL (l:=D.aj) (f:=(fun e:Sk×O=>cn e.2)∘fun e:Sk×O=>(e.1+m,cK m e.2)) (g:=fun e:Sk×O=>cn e.2) (fun e _=>KW m _ e.2 (Sh _))];exact h.uF
 obtain⟨y,b,rfl⟩:=a c d;rw[acx];exact h.cj y b
theorem acz (m:Sk){D:cz}(a:Hk D){k:Sq}{r:Sg Sk}(b:c5 D.aj k (bG D.a7) [] r):
  c5 (tA m D).aj k (bG (tA m D).a7) [] (r.map (·+m))/\ew (tA m D) (r.map (·+m))=ew D r:=by
 obtain⟨c,-⟩:=k7 b;refine⟨?_,?_⟩
 ·have:=acv m b;rw[<-KS m _ _ (Sh _)] at this;exact this
 show(⟨D.mF,D.eb,D.mG,cB (r.map (·+m)) (cK m D.a7),ga (iz m D.aj) (r.map (·+m))⟩:cz)=⟨D.mF,D.eb,D.mG,cB r D.a7,ga D.aj r⟩;rw[KU r m _ _ _ (Sh _) a.xA,acw m a.Hl c.kr]
end Go.Cl
namespace Go.Proofs.YtgpmffbleaphkaaGreat
open Go.Cl Go.Lib Go.Cl.Ch
theorem KX:∀(a P:Sg O) (L:Sg bz),gI a P=some L->L.length<=a.length
 |[],_,L,h=>by
  simp only[gI] at h;obtain rfl:=Option.some.inj h;exact Sh _
 |_::_,[],L,h=>by
  simp only[gI] at h;obtain rfl:=Option.some.inj h;simp
 |n::b,p::P,L,h=>by
  simp only[gI] at h;split at h
  ·cases a:gI b P with
   |none=>rw[a] at h;simp at h
   |some M=>
    rw[a] at h;have:=KX b P M a;simp only[Option.map_some,Option.some.injEq] at h;rw[<-h];simp;omega
  cases h
theorem acA (o:O):(fk o).1.length<=8:=by
 unfold fk;split
 ·simp
 split
 ·simp
 rename_i a;split
 ·simp
 rename_i L b;have:=KX _ _ _ b;simp only[not_or] at a;show L.length<=8;omega
theorem KY {o:O}(f:bd o)(t:o.cj.length<=4000):py 65536 o:=by
 refine⟨ag (acA o),KP ai _ _ Z,?_⟩;have g:(js o 65536).1.length<=65536:=by
  unfold js;split
  ·simp
  split
  ·simp
  exact KQ (K:=65536) ai _ _ Z
 unfold gO;split
 ·generalize (js o 65536).1=h at g;cases f with
  |au u a b c d e=>
   show bd (px (kb _ _) h);unfold kb;split
   ·refine .au Z a (SO (KV pw _) b) (fun i j=> ?_) d (fun l m=> ?_)
    ·rcases GC _ _ j with n|p
     ·exact c i n
     obtain⟨k,q,rfl⟩:=Sp.1 p;exact(by decide:∀k∈pw,k.length<=100000) k q
    rcases GC _ _ m with r|s
    ·exact e l r
    obtain⟨k,v,rfl⟩:=Sp.1 s;exact bd.ck
   exact .au Z a b c d e
 exact bd.ck
end Go.Proofs.YtgpmffbleaphkaaGreat
namespace Go.Cl
theorem acB {l:Sg Si}{a:Sq}{b:Sg Si}(h:a<l.length):eB l (a+1) b=eB l a (l.getD a undef::b):=by
 unfold eB;rw[Sv h,List.getD_eq_getElem?_getD,List.getElem?_eq_getElem h];simp only[Sy,List.cons_append,List.nil_append,List.length_cons,Option.getD_some];rw[show a+1+b.length=a+(b.length+1) from Z]
theorem aU.eB {c:Type}{Q:(Sq->Prop)->J->Sg Si->c->Prop}{z:Sq}{e:Sg c}{b:Sg Si}{F:Sq->Prop}{s:J}(h:aU Q z F s e b){k:Sq}(g:k<e.length){a:Sg Si}{d:c}(f:a.length=z)(i:Q F s a d):aU Q z F s (e.set k d) (Cl.eB b (k*z) a):=by
 have e:Cl.eB b (k*z) a=b.take (k*z)++(a++b.drop ((k+1)*z)):=by
  unfold Cl.eB;rw[f,Nat.succ_mul,Sy]
 rw[e,List.set_eq_take_append_cons_drop,Sn g];refine(h.qY k Z).hQ (aU.hQ (D:=[d]) ⟨by simp[f],fun a b=> ?_⟩ (h.nN (k+1) Z));obtain rfl:a=0:=by simpa using b
 rw[Nat.zero_mul,List.drop_zero,List.take_of_length_le Z];exact i
def jt {a:Type}(g:a->a)(l:Sg a)(i:Sq):Sg a:=(l.take i).map g++l.drop i
theorem yC {a:Type}(g:a->a)(l:Sg a)(i:Sq):(jt g l i).length=l.length:=by
 simp[jt];omega
theorem KZ {a:Type}(g:a->a)(l:Sg a):jt g l l.length=l.map g:=by simp[jt]
theorem K0 {a:Type}(g:a->a){l:Sg a}{i:Sq}(h:i<l.length)(b:i<(jt g l i).length):(jt g l i)[i]=l[i]:=by
 simp[jt,Nat.min_eq_left (Nat.le_of_lt h)]
theorem K1 {a:Type}(g:a->a){l:Sg a}{i:Sq}(h:i<l.length):(jt g l i).set i (g l[i])=jt g l (i+1):=by
 show((l.take i).map g++l.drop i).set i (g l[i])=(l.take (i+1)).map g++l.drop (i+1);have e:((l.take i).map g).length=i:=by simp;omega
 rw[List.set_append_right i _ Z,e,Nat.sub_self,List.drop_eq_getElem_cons h,List.set_cons_zero,Sv h,List.map_append,Sy];rfl
theorem LB.K2 {P:Program}{c:bg}{A:Sq->Bool}{g:Sq}{d r:Sg Oper}{e:Sq}{f:an}{T:J}{h:Option Tmp}{Q:an->J->Prop}{l:TypeId}{m z:Sq}(t:bc P l=some m)(u:0<m){v:Si}{n:Sq}{o:Sg Si}(x:ao T z v n o){k j:Sq}(y:k<n)(B:j+m<=z){w p:Si}{a:Sg Si}(D:w.cells.toList=a)(E:a.length=m)(F:a.all aN=true)
  (G:∀i q s,bM z v k=ab i q s->p=ab i (q+j) s) (H:g=0) (K:∀b,ao b z v n (eB o (k*z+j) a)->aF v T b->LB.jd P c A (g-1) d r e f h Q undef b):LB.j6 P c A g d r e f h T Q (gu (fp P T l p w)):=by
 have⟨a,b,c,d⟩:=x.FY t u y B D E F G;rw[b,lV,LB.rb];exact⟨fun h=>SI H h,K a c d⟩
structure oz (FF:Sq->Prop) (s t:J) (B R:Sq) (k n:Sk) (bv lv dv:Si) (b:Sg Sw) (l:Sg O) (d:Sg (Sg Sw×O)):Prop where
 K3:∃lc,ao t 5 lv l.length lc/\aU aE 5 FF t l lc
 K4:∃dc,ao t 6 dv d.length dc/\aU cE 6 FF t d dc
 adt:az t 1 bv b.length (aM b)
 ab:ae t B [I k,I n,bv,lv,dv]
 adu:ae t R bX
 adv:ad s.Y s t
theorem oz.C {a:Sq->Prop}{s t u:J}{B R:Sq}{k n:Sk}{b c d:Si}{e:Sg Sw}{l:Sg O}{f:Sg (Sg Sw×O)}(h:oz a s t B R k n b c d e l f)(q:ad t.Y t u):oz a s u B R k n b c d e l f:=by
 have⟨⟨g,i,j⟩,⟨m,o,p⟩,r,v,w,x⟩:=h;exact⟨⟨g,i.C q,j.C cm q⟩,⟨m,o.C q,p.C bY q⟩,r.C q,v.C q,w.C q,x.d q⟩
end Go.Cl
namespace Go.Proofs.YtgpmffbleaphkaaGreat
open Go.Cl Go.Lib Go.Cl.Ch
theorem K5 (m:Sk)(Ze:0<=m)(Zf:m<=65536):∀(W0:Sq) (S:O),SizeOf.sizeOf S<=W0->∀(Xf:Sq->Prop) (E:J) (WG:Sg Si) (W1:Sk),aE Xf E WG S->bd S->fj W1 S->
  Runs Sl aw 10 [.agg WG.toArray,I m] E (ei E (cK m S)):=by
 intro W0
 induction W0 with
 |zero=>intro S W2;have:=S.g5;omega
 |succ W0 X4=>
 intro S Zg Xf E WG W1 Xg X5 Yr;have X6:=Xg.aG;have X7:=Xg.kX;refine Runs.cS 57 Tryz.func10 rfl fun g f X8 y=> ?_
 refine aq f X8 (aK fun A Ys X9 Zh=> ?_);refine aW f X6 @b8 @cy (aK fun Xh Yt Xi Zi=> ?_);have Zj:=X9.Y;have Zk:=Xi.Y;have Ya:=X9.d Xi;have Yb:=Ys.C Xi;have Yc:bX.length+1=6:=rfl;refine aR f Yc (ah.L Yb X6) ((Gq _ S (Sh _) Xf Xh WG (Xg.C Ya) X5).b ?_);rintro _ W3 ⟨q,L,T,p,o,K,v,w,Yu,Yv,rfl,rfl,Xj,W4,Xk,W5,Yd,Xl,Yw,Yx,Yy,Xm⟩;have Zl:=Xm.Y;refine aR f @b8 @cy (aK fun Zm Yz YA Zn=> ?_);refine aq f Yc ?_;refine bh aL ai Yz rfl rfl rfl (by simp only[SK,SP,(Xl.aN),(Xj.c.aN),(Xk.c.aN)];rfl) ?_;intro M WL Zo YB;have WL:ae M W3.Y [I q,I L,K,v,w]:=WL;have YC:WG.getD 0 undef=I q:=X7.1;have YD:WG.getD 1 undef=I L:=X7.2;have WA:=YA.a ⟨Z,fun a h=>YB a Z⟩;have Zp:W3.Y+1<=M.Y:=Z;have YE:=(Ya.d Xm).d WA;have Ye:=Xm.d WA;have Yf:=Yb.C Ye;have YF:aD Sl M 3 (ab E.Y 0 6)=some (I q):=by
  rw[Yf.B aB (a:=0) (c:=6) Z Z,YC]
 have YG:aD Sl M 2 (ab E.Y 1 6)=some (I L):=by
  rw[Yf.B lq (a:=1) (c:=6) Z Z,YD]
 obtain⟨YH,YI,-,-,-,-,-,YJ,-,-,-,YK,YL⟩:=lr.mp Yr;cases X5 with
 |au Zq Zr Zs Zt YM YN=>
 have⟨B,W6⟩:=aO W3.Y;have⟨z,X⟩:=aO (fun a=>Xh.Y<=a/\a≠B/\ak v≠some a/\ak w≠some a:Sq->Prop);have Xn:∀a,(Xh.Y<=a/\ak v≠some a/\ak w≠some a)/\a<W3.Y->z a:=fun a h=>by rw[X];exact⟨h.1.1,Z,h.1.2⟩
 have YO:=((Yx.eV cm).b cm Xn).C cm WA;have YP:=((Yy.eV bY).b bY Xn).C bY WA;have WM:=(Yw.eV Xl).b Xn;have YQ:=Xl.C WA;have YR:=Xj.C WA;have YS:=Xk.C WA;have Yg:ak v≠some B:=fun e=>ag (Xj.z _ e)
 have Yh:ak w≠some B:=fun e=>ag (Xk.z _ e)
 refine aR f @a6 YF ?_;generalize YT:ja Sl aw (Code.seq (Code.seq (Code.region 4 _ _) _) _) _=YU;have Yi:∀(g:an) (t:J),ae t B [I q,I (if q=9 then L+m else L),K,v,w]->t.Y=M.Y->(∀a,a≠B->t.i.N a=M.i.N a)->g.e=57->g.N 1=I m->g.N 4=ab A.Y 0 6->g.N 5=ab B 0 6->YU .b2 g t:=by
  clear f X8 y g;intro g t Xo WN WH f y F s;subst YT;refine ax f ?_;have⟨R,Yj⟩:=aO (if q=9 then L+m else L);rw[<-Yj] at Xo;have Xp:∀a,z a->ak (bI B)≠some a:=fun a h e=>by
   have e:some B=some a:=e;injection e with e;rw[X] at h;exact h.2.1 e.symm
  have W7:aF (bI B) M t:=aF.f WN WH;have Yk:oz z E t B A.Y q R K v w T p o:=⟨⟨Yu,YR.f WN WH Yg,YO.j cm W7 Xp⟩,⟨Yv,YS.f WN WH Yh,YP.j bY W7 Xp⟩,YQ.hA WM W7 Xp,Xo,(Yt.C Ye).f WN WH Z,YE.a ⟨Z,fun a h=>WH a Z⟩⟩;refine aZ.w (fun Q g t=>∃i:Sq,Q=p.length-i/\i<=p.length/\oz z E t B A.Y q R K v w T (jt (cK m) p i) o/\M.Y<=t.Y/\g.e=57/\g.N 1=I m/\g.N 4=ab A.Y 0 6/\g.N 5=ab B 0 6/\g.N 6=I (i:Sq))
   (fun Q g t=>Q= .bb 0/\oz z E t B A.Y q R K v w T (p.map (cK m)) o/\M.Y<=t.Y/\g.e=57/\g.N 1=I m/\g.N 4=ab A.Y 0 6/\g.N 5=ab B 0 6)
   ⟨0,rfl,Z,Yk,Z,V f,V y,V F,V s,aa⟩ ?_ ?_
  ·clear f y F s g Yk W7 Xo WN WH t;rintro YV Xq Q g t ⟨i,rfl,YW,r,WI,f,y,F,s,W8⟩;have⟨Zu,Wy,W9⟩:=r.K3;have Xr:=yC (cK m) p i;have Yl:=r.ab.v ft 3 6 v;by_cases D:i<p.length;rotate_left
   ·obtain rfl:i=p.length:=Z;have WB:¬((p.length:Sq):Sk)<(((jt (cK m) p p.length).length:Sq):Sk):=Z;refine ch f s W8 @c7 Yl (Wy.c.g Sz) WB ?_;exact Xq _ _ _ ⟨rfl,by rw[KZ] at r;exact r,WI,V f,V y,V F,V s⟩
   have WB:(i:Sk)<(((jt (cK m) p i).length:Sq):Sk):=Z;refine ch f s W8 @c7 Yl (Wy.c.g Sz) (SN WB) (LB.T 1 0 fun YX Xs WO _ G YY=> ?_);have Xt:=LA.D WO r.ab.n;have WC:=r.C G;have YZ:=WC.ab.v ft 3 6 v;have WQ:=(Wy.C G).c.r (k:= .i64) (x:=(i:Sk)) Sz aL Z Z;rw[Sm] at WQ;have H:i<(jt (cK m) p i).length:=Z;have Xa:=(Wy.C G).c.dm bV aL H;have Xu:=W9.H i H;rw[K0 _ D H] at Xu;refine hy f y s W8 @c7 Xt YZ Wy.m WQ Xa (LA.iG Wy.c WO H) Xu.m ?_;have Y0:q=6:=YH (fun e=>by rw[e] at D;exact SH _ D);refine(X4 p[i] (ag (O.gD (k:=q) (n:=L) (b:=T) (l:=p) (d:=o) (Sf D))) z (aS t 0) _ (W1-1) (Xu.C G) (YM _ (Sf D)) ((YK Y0).2 i D).2).b ?_;rintro _ Xb ⟨WR,rfl,U,W⟩;have Y1:=W.Y;refine⟨fun _=>LA.ar.R Xs (W.q Z),?_⟩;have⟨⟨Xv,WJ,WS⟩,⟨Ym,WD,WT⟩,WK,WU,WV,WW⟩:=WC.C W;refine LB.K2 aL ai WJ H (j:=0) ai rfl U.aG U.K (fun _ _ _ W2=>W2) rfl ?_;intro WX Xc u;have Xw:=u.Y;have WE:∀a,z a->ak v≠some a:=fun a h=>by rw[X] at h;exact h.2.2.1
   have Xx:aE z WX WR (cK m p[i]):=(U.j u (fun a h e=>ag ((Wy.C G).z _ e))).b (fun a h=>by
    rw[X];exact⟨Z,ag r.ab.n,fun e=>ag ((Wy.C G).z _ e),fun e=>by obtain⟨_,Xy,-⟩:=WC.K4;have:=Xy.z _ e;omega⟩)
   have WY:=(WS.j cm u WE).eB H U.aG Xx;rw[K1 _ D] at WY;have Xz:=yC (cK m) p (i+1);have XW:oz z E WX B A.Y q R K v w T (jt (cK m) p (i+1)) o:=⟨⟨_,by rw[Xz,<-Xr];exact Xc,WY⟩,⟨Ym,WD.j u (fun a h e=>Yd a e h),WT.j bY u WE⟩,WK.hA WM u WE,WU.j u Yg,WV.j u (fun e=>ag (W4 _ e)),WW.a ⟨Xw,fun a h=>u.N a Z (fun e=>ag (W4 _ e))⟩⟩;refine aq f W8 ?_;exact aH (p.length-(i+1)) Z ⟨i+1,rfl,Z,XW,Z,V f,V y,V F,V s,aa⟩
  rintro Q g t ⟨rfl,r,WI,f,y,F,s⟩;refine ax f ?_;refine aZ.w (fun Q g t=>∃i:Sq,Q=o.length-i/\i<=o.length/\oz z E t B A.Y q R K v w T (p.map (cK m)) (jt (fun e=>(e.1,cK m e.2)) o i)/\M.Y<=t.Y/\g.e=57/\g.N 1=I m/\g.N 4=ab A.Y 0 6/\g.N 5=ab B 0 6/\g.N 7=I (i:Sq))
   (fun Q g t=>Q= .bb 2/\oz z E t B A.Y q R K v w T (p.map (cK m)) (o.map fun e=>(e.1,cK m e.2))/\M.Y<=t.Y/\g.e=57/\g.N 4=ab A.Y 0 6/\g.N 5=ab B 0 6)
   ⟨0,rfl,Z,r,Z,V f,V y,V F,V s,aa⟩ ?_ ?_
  ·clear f y F s g r WI t;rintro YV Xq Q g t ⟨i,rfl,YW,r,WI,f,y,F,s,Xd⟩;have⟨Zv,Wz,W9⟩:=r.K4;have Xr:=yC (fun e:Sg Sw×O=>(e.1,cK m e.2)) o i;have Yn:=r.ab.v eh 4 6 w;by_cases D:i<o.length;rotate_left
   ·obtain rfl:i=o.length:=Z;have WB:¬((o.length:Sq):Sk)<(((jt (fun e:Sg Sw×O=>(e.1,cK m e.2)) o o.length).length:Sq):Sk):=Z;refine ch f s Xd @bJ Yn (Wz.c.g SA) WB ?_;exact Xq _ _ _ ⟨rfl,by rw[KZ] at r;exact r,WI,V f,V F,V s⟩
   have WB:(i:Sk)<(((jt (fun e:Sg Sw×O=>(e.1,cK m e.2)) o i).length:Sq):Sk):=Z;refine ch f s Xd @bJ Yn (Wz.c.g SA) (SN WB) (LB.T 1 0 fun YX Xs WO _ G YY=> ?_);have Xt:=LA.D WO r.ab.n;have WC:=r.C G;have Y2:=WC.ab.v eh 4 6 w;have XX:=(Wz.C G).c;have WQ:=XX.r (k:= .i64) (x:=(i:Sk)) SA bx Z Z;rw[Sm] at WQ;have H:i<(jt (fun e:Sg Sw×O=>(e.1,cK m e.2)) o i).length:=Z;obtain⟨-,Y3⟩:=kS XX H;have⟨Zw,Y4,XY,Yo⟩:=W9.H i H;have⟨Yp,Y5⟩:=kn Y4;rw[K0 _ D H] at XY Yo Yp;have Xa:=XX.hC bV aL H (j:=1) Z;rw[Y5] at Xa;refine nS f y s Xd @bJ Xt Y2 Wz.m WQ Y3 Xa @fT (LA.g0 Wz.c WO H) XY.m ?_;have Y6:q=7\/q=8:=YI (fun e=>by rw[e] at D;exact SH _ D);refine(X4 o[i].2 (ag (O.fs (k:=q) (n:=L) (b:=T) (l:=p) (d:=o) (Sf D))) z (aS t 0) _ (W1-1) (XY.C G) (YN _ (Sf D)) ((YL Y6).2.1 i D).2).b ?_;rintro _ Xb ⟨WR,rfl,U,W⟩;have Y1:=W.Y;refine⟨fun _=>LA.ar.R Xs (W.q Z),?_⟩;obtain⟨⟨Xv,WJ,WS⟩,-,WK,WU,WV,WW⟩:=WC.C W;have WD:=(Wz.C G).C W;have WT:=(W9.C bY G).C bY W;refine LB.K2 aL ai WD H (j:=1) ai rfl U.aG U.K (fun _ _ _ W2=>by rw[W2];rfl) rfl ?_;intro WX Xc u;have Xw:=u.Y;have WE:∀a,z a->ak w≠some a:=fun a h=>by rw[X] at h;exact h.2.2.2
   have Xx:aE z WX WR (cK m o[i].2):=(U.j u (fun a h e=>ag ((Wz.C G).z _ e))).b (fun a h=>by
    rw[X];exact⟨Z,ag r.ab.n,fun e=>by obtain⟨_,Xy,-⟩:=WC.K3;have:=Xy.z _ e;omega,fun e=>ag ((Wz.C G).z _ e)⟩)
   rw[acB (by rw[WD.length];omega),Yp] at Xc;have WY:=(WT.j bY u WE).eB (a:= .string ⟨o[i].1.toArray⟩::WR) (d:=(o[i].1,cK m o[i].2)) H (by simp[U.aG]) ⟨WR,rfl,Xx,Yo⟩;rw[K1 (fun e:Sg Sw×O=>(e.1,cK m e.2)) D] at WY;have Xz:=yC (fun e:Sg Sw×O=>(e.1,cK m e.2)) o (i+1);have XW:oz z E WX B A.Y q R K v w T (p.map (cK m)) (jt (fun e=>(e.1,cK m e.2)) o (i+1)):=⟨⟨Xv,WJ.j u (fun a h e=>Yd a h e),WS.j cm u WE⟩,⟨_,by rw[Xz,<-Xr];exact Xc,WY⟩,WK.hA WM u WE,WU.j u Yh,WV.j u (fun e=>ag (W5 _ e)),WW.a ⟨Xw,fun a h=>u.N a Z (fun e=>ag (W5 _ e))⟩⟩;refine aq f Xd ?_;exact aH (o.length-(i+1)) Z ⟨i+1,rfl,Z,XW,Z,V f,V y,V F,V s,aa⟩
  rintro Q g t ⟨rfl,r,WI,f,F,s⟩;have⟨⟨Xv,WJ,WS⟩,⟨Ym,WD,WT⟩,WK,WU,WV,WW⟩:=r;have Y7:=ae.y (a:=[I q,I R,K,v,w]) bV aL WU (c:=6) rfl;have Y8:=WK.aN;have Y9:=WJ.c.aN;have Za:=WD.c.aN;refine aW f F s Y7 ?_;refine bh aL ai WV rfl rfl rfl (by simp only[SK,SP,Y8,Y9,Za];rfl) ?_;intro Xb XZ X0 Xe;have XZ:ae Xb A.Y [I q,I R,K,v,w]:=XZ;have Zb:=ae.y (P:=Sl) (a:=[I q,I R,K,v,w]) bV aL XZ (c:=6) rfl;refine b0 f F Zb @Tryz.results10 ?_;rw[pA,<-Yj];have X1:aF (bI A.Y) t Xb:=aF.f X0 Xe;have X2:∀a,z a->ak (bI A.Y)≠some a:=fun a h e=>by
   have e:some A.Y=some a:=e;injection e with e;rw[X] at h;have:=h.1;omega
  have X3:∀a,z a->E.Y<=a:=fun a h=>by rw[X] at h;have:=h.1;omega
  exact⟨_,rfl,aE.lZ (WK.hA WM X1 X2) (WJ.c.f X0 Xe (fun e=>ag (W4 _ e))) (WD.c.f X0 Xe (fun e=>ag (W5 _ e))) (WM.b X3) (bA.gE (fun a h=>ag (W4 _ h))) (bA.gE (fun a h=>ag (W5 _ h))) ((WS.j cm X1 X2).b cm X3) ((WT.j bY X1 X2).b bY X3),WW.a ⟨Z,fun a h=>Xe a Z⟩⟩
 rw[<-W6] at WL;by_cases WZ:q=9
 ·have Zx: -9223372036854775808<=L+m/\L+m<=9223372036854775807:=ag (YJ WZ);refine bp f y @eE YG (Sj WZ) ?_;rw[<-W6];refine db sC WL rfl aA rfl ?_;intro t Zc Zd Yq;refine ax f ?_;rw[W6] at Yq;exact Yi _ _ (by rw[Sn WZ];exact Zc) Zd (fun a h=>Yq a Z) (V f) (V y) aa aa
 refine ax (Ss WZ) ?_;exact Yi _ _ (by rw[St WZ];exact WL) rfl (fun a _=>rfl) (V f) (V y) aa (V W6)
theorem BJ:w5 aw:=by constructor<;>rfl
theorem acC (Z4 Z5:Sq->Prop)(z:J)(A B:cz)(WQ:Si)(Xl:Sg Si)(WR:Si)(Y3:Sg Si)(WS:Si)(Xm:Sg Si)(WT:Si)(Y4:Sg Si)(Y5:c2 Z4 z WQ Xl WR Y3 A)(Y6:c2 Z5 z WS Xm WT Y4 B)(Y7:fv A)(Y8:fv B)
  (Yd:Sq) (WB:Sg Sk) (Y9:c5 A.aj Yd (bG A.a7) [] WB) (Z6:Yd<=10000000) (Ye:Sq) (WC:Sg Sk) (Za:c5 B.aj Ye (bG B.a7) [] WC) (Z7:Ye<=10000000) (m:Sk) (Zb:m<=20000000)
  (Zc:∀e∈(ew A WB).aj,py m e.2) (Zd:∀e∈(ew B WC).aj,py m e.2):
  Runs Sl aw 9 [.agg (bk A WQ Xl WR).toArray,.agg (bk B WS Xm WT).toArray,I m] z (tx z (ew A WB) (ew B WC) (lN m)):=by
 obtain⟨Ze,-⟩:=k7 Y9;obtain⟨Zf,-⟩:=k7 Za;have Xn:=mW Y7 Ze.kg Ze.kr;have Yf:=mW Y8 Zf.kg Zf.kr;have Yg:=yz A WB;have Yh:=yz B WC;have⟨X,Zg⟩:=aO (ew A WB);have⟨o,Zh⟩:=aO (ew B WC);rw[<-Zg] at Xn Yg Zc|-
 rw[<-Zh] at Yf Yh Zd|-
 refine Runs.gZ fun Z8 Zi=> ?_
 have Zj:=Y5.a7.aG;have Zk:=Y6.a7.aG;have Xo:=c9 (D:=A) (mv:=WQ) (iv:=WR) Zj;have Xp:=c9 (D:=B) (mv:=WS) (iv:=WT) Zk;refine Runs.iY 109 Tryz.func9 rfl fun f b Zl WU p=> ?_
 refine aq b Zl ?_;refine aK ?_;intro Yi Yj Zm Z9;refine aR b WU Xo ?_;refine aK ?_;intro u Yk Yl Zn;have zbt:=Zm.Y;have zbu:=Yl.Y;have Ym:=Zm.d Yl;have Yj:ae Yi z.Y (bk A WQ Xl WR):=Yj;have Yk:ae u Yi.Y (bk B WS Xm WT):=Yk;refine aq b Xp ?_;refine LB.T 2 2 fun zbv Zo Zp _ WV zbw=> ?_
 have zaa:=LA.D (i:=z.Y) Zp;have zab:=LA.D (i:=Yi.Y) Zp;have Zq:=(Y5.fF.C Ym).C WV;have zac:=(Y6.fF.C Ym).C WV;have zad:=(Yj.C Yl).C WV;have zae:=Yk.C WV;have Yn:∀g,bn (.bool g) (.bool g)=true:=fun g=>by cases g<;>rfl
 refine fR b zaa (dV zad Zj) Zq.m ?_;refine(yv _ (aS u 2) A WQ Xl WR Y3 Zq Y7 Yd WB Y9 Z6).b ?_;rw[<-Zg];rintro _ zaf ⟨zag,Zr,zah,zai,rfl,Xq,WW⟩;have zbx:=WW.Y;refine⟨fun _=>LA.ar.R Zo (WW.q Z),?_⟩;have zaj:=zae.C WW;have Zs:=zac.C WW;refine fR b zab (dV zaj Zk) Zs.m ?_;refine(yv _ zaf B WS Xm WT Y4 Zs Y8 Ye WC Za Z7).b ?_;rw[<-Zh];rintro _ zak ⟨zal,Zt,zam,zan,rfl,Xr,F⟩;have zao:=F.Y;refine⟨fun _=>LA.ar.R Zo (F.q Z),?_⟩;have zap:=Xq.C F;have R:=Xq.a7.aG;have WX:=Xr.a7.aG;have zaq:=nX Xq;have zar:=nY Xq;have zas:=nX Xr;have zat:=nY Xr;have zau:nE.length+1=10:=rfl;refine aq @qD @qE ?_;refine LB.j7 Z ?_;intro zby zav Zu Yo;refine aR b @qD @qE ?_;refine LB.j7 Z ?_;intro zbz zaw Yp Xs;refine aq b zau ?_;refine LB.eY mH ai (zav.f Yp Xs Z) rfl rfl (by simpa using zaq) zar (fun h=>SI rfl h) ?_;intro zax Yq Yr Xt;have Yq:ae zax u.Y (bk (X) zag Zr zah):=Yq;refine ax b ?_;refine LB.eY mH ai (zaw.f Yr Xt Z) rfl rfl (by simpa using zas) zat (fun h=>SI rfl h) ?_;intro Ys Xu Yt Xv;have Xu:ae Ys (u.Y+1) (bk o zal Zt zam):=Xu;have Zv:=Yq.f Yt Xv Z;have L:∀(Xw a:Sq),(aS u 2).Y<=a->Xw<u.Y+2->ak (bI Xw)≠some a:=fun Xw a n zbA e=>by
  have e:some Xw=some a:=e;injection e with e;omega
 have Zw:=(((zap.j (aF.f Zu Yo) (fun a n=>L _ a n Z)).j (aF.f Yp Xs) (fun a n=>L _ a n Z)).j (aF.f Yr Xt) (fun a n=>L _ a n Z)).j (aF.f Yt Xv) (fun a n=>L _ a n Z);have Zx:=(((Xr.j (aF.f Zu Yo) (fun a n=>L _ a Z Z)).j (aF.f Yp Xs) (fun a n=>L _ a Z Z)).j (aF.f Yr Xt) (fun a n=>L _ a Z Z)).j (aF.f Yt Xv) (fun a n=>L _ a Z Z);have zay:∀a,a<u.Y->Ys.i.N a=zak.i.N a:=fun a n=>by rw[Xv a Z,Xt a Z,Xs a Z,Yo a Z]
 have Zy:=(((Ym.d WV).a (WW.q Z)).a (F.q Z)).a ⟨Z,fun a n=>zay a Z⟩;have zbB:=Zy.Y;refine aW b @lx (lz Zv R) (lz Xu WX) ?_;refine(wZ _ X.a7 o.a7 (Sh _) _ _ Ys Zr Zt Zw.a7 Zx.a7 Xn.a7 Yf.a7).b ?_;rintro _ M ⟨⟨E,rfl,Zz⟩,WD⟩;have Yu:=Zy.d WD;have Yv:∀(f:an) (t:J),f.e=109->f.N 6= .bool false->(¬(cQ X.a7 o.a7/\X.aj.length=o.aj.length/\∀d (h:d<X.aj.length) (S:d<o.aj.length),lN m X.aj[d].2 o.aj[d].2))->ad z.Y z t->eW Sl Tryz.f9.results.toList Z8 .bF f t:=by
  intro f t b Yw Yx q;refine bS b Yw @SL ?_;rw[Zi];exact⟨.ko Yx,q⟩
 cases E with
 |false=>
  refine c0 b ?_;exact Yv _ _ (V b) aa (fun h=>by have:=Zz.2 h.1;cases this) Yu
 |true=>
 have zbC:=WD.Y;have Yy:=Zw.C WD;have Yz:=Zx.C WD;have YA:=Zv.C WD;have YB:=Xu.C WD;by_cases YC:((X.aj.length:Sq):Sk)=((o.aj.length:Sq):Sk);rotate_left
 ·refine eC b @dA (dB YA R) (dB YB WX) (Yy.aj.g Se) (Yz.aj.g Se) YC ?_;exact Yv _ _ (V b) aa (fun h=>YC (by rw[h.2.1])) Yu
 refine eC b YC @dA (dB YA R) (dB YB WX) (Yy.aj.g Se) (Yz.aj.g Se) ?_;have zbD:X.aj.length=o.aj.length:=Z;have zbE:=Xn.aG;refine aZ.w (fun WE f t=>∃d:Sq,WE=X.aj.length-d/\d<=X.aj.length/\(∀a,a<d->∀(h:a<X.aj.length) (S:a<o.aj.length),lN m X.aj[a].2 o.aj[a].2)/\ad M.Y M t/\f.e=109/\f.N 2=I m/\f.N 7=ab u.Y 0 10/\f.N 8=ab (u.Y+1) 0 10/\f.N 9=I (d:Sq))
  (fun WE f t=>(WE= .bF/\(¬∀a,∀(h:a<X.aj.length) (S:a<o.aj.length),lN m X.aj[a].2 o.aj[a].2)/\ad M.Y M t/\f.e=109/\f.N 6= .bool false)\/(WE= .bb 0/\(∀a,∀(h:a<X.aj.length) (S:a<o.aj.length),lN m X.aj[a].2 o.aj[a].2)/\ad M.Y M t/\f.e=109))
  ⟨0,rfl,Z,fun a h=>Z,ad.p _ _,V b,V p,aa,aa,aa⟩ ?_ ?_
 ·clear b Zl WU p f;rintro zbF ZA WE f t ⟨d,rfl,zbG,Xx,q,b,p,v,G,w⟩;have zbH:=q.Y;have T:=Yy.C q;have WY:=Yz.C q;have WZ:=YA.C q;have YD:=YB.C q;by_cases r:d<X.aj.length;rotate_left
  ·obtain rfl:d=X.aj.length:=Z;have W0:¬((X.aj.length:Sq):Sk)<((X.aj.length:Sq):Sk):=Z;refine ch b v w @dA (dB WZ R) (T.aj.g Se) W0 ?_;exact ZA _ _ _ (.inr ⟨rfl,fun a h S=>Xx a h h S,q,V b⟩)
  have W0:(d:Sk)<(X.aj.length:Sk):=Z;have s:d<o.aj.length:=Z;refine ch b v w @dA (dB WZ R) (T.aj.g Se) (SN W0) ?_;refine LB.T 1 2 fun B zbI Xy zaz W1 zbJ=> ?_
  have zaA:=LA.D Xy WZ.n;have zaB:=LA.D Xy YD.n;have zaC:=WZ.C W1;have zaD:=YD.C W1;have Xz:=T.C W1;have XW:=WY.C W1;have W2:=Xz.aj.r (k:= .i64) (x:=(d:Sk)) Se eG Z Z;have W3:=XW.aj.r (k:= .i64) (x:=(d:Sk)) Se eG Z Z;rw[Sm] at W2 W3;have⟨ZB,zaE⟩:=ly Xz.aj r;have⟨ZC,zaF⟩:=ly XW.aj s;obtain⟨ZD,zbK,U,-⟩:=mI (T.dz.H d r);obtain⟨ZE,zbL,W,-⟩:=mI (WY.dz.H d s);have ZF:=Xz.aj.hC bV aL r (j:=1) Z;have ZG:=XW.aj.hC bV aL s (j:=1) Z;have XX:=T.aj.fE aB r (j:=0) Z;have XY:=WY.aj.fE aB s (j:=0) Z;rw[Su,ZD,Yg d r] at XX;rw[Su,ZE,Yh d s] at XY;have XZ:=Zc _ (Sf r);have X0:=Zd _ (Sf s);have Wy:=Xn.aj _ (Sf r);have Wz:=Yf.aj _ (Sf s);have zaG:bX.length+1=6:=rfl;have⟨l,YE⟩:=aO (X.aj[d].2);have⟨g,YF⟩:=aO (o.aj[d].2);rw[<-YE] at XZ Wy U;rw[<-YF] at X0 Wz W;obtain⟨YG,zaH⟩:∃YH,YH=(zai.drop (d*6+1)).take 5:=⟨_,rfl⟩
  obtain⟨YI,zaI⟩:∃YH,YH=(zan.drop (d*6+1)).take 5:=⟨_,rfl⟩
  rw[<-zaH] at U ZF;rw[<-zaI] at W ZG;have X1:=U.aG;have X2:=W.aG;simp(disch:=omega)only[aI,fi,dy,SE,SC,↓SM,b,v,G,w,dA,zaA,zaB,dB zaC R,dB zaD WX,Xz.aj.m,XW.aj.m,W2,W3,zaE,zaF,ZF,ZG,U.m,W.m,fT,LA.g0 T.aj Xy r,LA.g0 WY.aj Xy s,b8,cy];refine LB.j7 Z ?_;intro zbM zaJ Z9 zaK;refine nh b @b8 @cy ?_;refine LB.j7 Z ?_;intro zbN zaL Zn ZH;refine e6 b zaG ?_;refine LB.eY aL ai (zaJ.f Zn ZH Z) rfl rfl X1 U.K (fun _=>zaz _ Z) ?_;intro zaM YJ zaN ZI;have YJ:ae zaM t.Y YG:=YJ;refine c0 b ?_;refine LB.eY aL ai (zaL.f zaN ZI Z) rfl rfl X2 W.K (fun h=>SI rfl h) ?_;intro WG P zaO ZJ;have P:ae WG (t.Y+1) YI:=P;have W4:=YJ.f zaO ZJ Z;have W5:ad t.Y t WG:=W1.a ⟨Z,fun a n=>by rw[ZJ a Z,ZI a Z,ZH a Z,zaK a Z]⟩;have zbO:t.Y+2<=WG.Y:=Z;have W6:=U.C W5;have WH:=W.C W5;have YK:∀{W7:Sq->Prop} {t:J} {d:Sq} {ZK:Sg Si} {W8:O},ae t d ZK->aE W7 t ZK W8->aD Sl t 3 (ab d 0 6)=some (I W8.a9):=fun h W8=>by
   have e:=W8.kX.1;have zbP:=W8.aG;rw[h.B aB (a:=0) (c:=6) Z Z,e]
  refine nh b @a6 (YK W4 W6) ?_;generalize zaP:ja Sl aw (Code.seq (Code.region 14 _ _) _) _=zaQ;have W9:∀(W7 YL:Sq->Prop) (f:an) (E:J) (X3 X4:Sg Si) (Xa Xb:O),ae E t.Y X3->ae E (t.Y+1) X4->aE W7 E X3 Xa->aE YL E X4 Xb->bd Xa->bd Xb->lN m l g=cQ Xa Xb->ad t.Y t E->f.e=109->f.N 2=I m->f.N 7=ab u.Y 0 10->f.N 8=ab (u.Y+1) 0 10->f.N 9=I (d:Sq)->f.N 10=ab t.Y 0 6->f.N 11=ab (t.Y+1) 0 6->zaQ .b2 f E:=by
   intro W7 YL f E X3 X4 Xa Xb ZL ZM YM YN zaR zaS WA WI b p v G w zaT zaU;subst zaP;refine c0 b ?_;have zbQ:=WI.Y;have ZN:=WZ.C WI;have ZO:=YD.C WI;have ZP:=T.C WI;have ZQ:=WY.C WI;refine LB.T 0 0 fun zaV YO H _ K _=> ?_
   have zaW:=LA.D H ZN.n;have zaX:=LA.D H ZO.n;have YP:=LA.D H ZL.n;have YQ:=LA.D H ZM.n;have X5:=ZP.C K;have X6:=ZQ.C K;have W2:=X5.aj.r (k:= .i64) (x:=(d:Sk)) Se eG Z Z;have W3:=X6.aj.r (k:= .i64) (x:=(d:Sk)) Se eG Z Z;rw[Sm] at W2 W3;obtain⟨ZB,-⟩:=ly X5.aj r;obtain⟨ZC,-⟩:=ly X6.aj s;have XX:=X5.aj.fE aB r (j:=0) Z;have XY:=X6.aj.fE aB s (j:=0) Z;rw[Su,ZD,Yg d r] at XX;rw[Su,ZE,Yh d s] at XY;have zaY:=YM.aG;have zaZ:=YN.aG;simp(disch:=omega)only[aI,bD,fi,dy,SJ,bB,SE,SC,↓SM,b,v,G,w,zaT,zaU,dA,zaW,zaX,YP,YQ,dB (ZN.C K) R,dB (ZO.C K) WX,X5.aj.m,X6.aj.m,W2,W3,ZB,ZC,XX,XY,fT,LA.g0 ZP.aj H r,LA.g0 ZQ.aj H s,Yn,ah.L (ZL.C K) zaY,ah.L (ZM.C K) zaZ,YM.m,YN.m];refine(wZ _ Xa Xb (Sh _) W7 YL (aS E 0) X3 X4 (YM.C K) (YN.C K) zaR zaS).b ?_;rintro _ za0 ⟨⟨ZR,rfl,y⟩,WJ⟩;have zbR:=WJ.Y;have ZS:=(q.d WI).a ((K.d WJ).q Z);refine⟨fun h=>h.elim,?_⟩;cases ZR with
   |false=>
    refine e6 b Yn ?_;exact ZA _ _ _ (.inl ⟨rfl,fun h=>(by have:=h d r s;rw[<-YE,<-YF,WA] at this;have:=y.2 this;cases this),ZS,V b,aa⟩)
   |true=>
   refine nh b w Yn ?_;refine aH (X.aj.length-(d+1)) Z ⟨d+1,rfl,Z,fun a n h S=> ?_,ZS,V b,V p,V v,V G,aa⟩;rcases SB.mp n with za1|rfl
   ·exact Xx a za1 h S
   rw[<-YE,<-YF,WA];exact y.1 rfl
  have ZT:((gO l m).2=true/\(gO g m).2=true->False)->lN m l g=cQ l g:=fun h=>St h
  by_cases Xc:l.a9=8;rotate_left
  ·refine e6 b (Ss Xc) ?_;exact W9 _ _ _ _ _ _ _ _ W4 P W6 WH Wy Wz (ZT (fun h=>by have:=h.1;unfold gO at this;rw[St Xc] at this;cases this)) W5 (V b) (V p) (V v) (V G) (V w) aa aa
  by_cases X7:g.a9=8;rotate_left
  ·refine gX b (Sj Xc) @a6 (YK P WH) (Ss X7) ?_;exact W9 _ _ _ _ _ _ _ _ W4 P W6 WH Wy Wz (ZT (fun h=>by have:=h.2;unfold gO at this;rw[St X7] at this;cases this)) W5 (V b) (V p) (V v) (V G) (V w) aa aa
  refine eC b p (Sj Xc) @a6 (YK P WH) (Sj X7) (ah.L W4 X1) ?_;refine(KR _ WG YG l W6 Wy m Zb XZ.1 XZ.2.1).b ?_;have Xo:gO l m=(px (kb l (fU pw)) (js l m).1,decide ((js l m).2=0)):=Sn Xc;have Xp:gO g m=(px (kb g (fU pw)) (js g m).1,decide ((js g m).2=0)):=Sn X7;have YR:=XZ.2.2;have YS:=X0.2.2;have WA:lN m l g=(if(gO l m).2=true/\(gO g m).2=true then cQ (gO l m).1 (gO g m).1 else cQ l g):=rfl;rw[Xo] at YR;rw[Xp] at YS;rw[Xo,Xp] at WA;have⟨X8,ZU⟩:=aO (js l m);obtain⟨ZV,YT⟩:∃X8,X8=js g m:=⟨_,rfl⟩
  rw[<-ZU,<-YT] at WA;rw[<-ZU] at YR|-
  rw[<-YT] at YS;rintro _ za2 ⟨ZR,rfl,y⟩;have F:=y.A;have zao:=F.Y;have X9:∀l g,bm (.tuple #[l,g]) 0=some l:=fun _ _=>rfl
  have Ya:∀l g,bm (.tuple #[l,g]) 1=some g:=fun _ _=>rfl
  refine gX b p X9 Ya (ah.L (P.C F) X2) ?_;refine(KR _ za2 YI g (WH.C F) Wz m Zb X0.1 X0.2.1).b ?_;rw[<-YT];rintro _ YU ⟨zbS,rfl,Q⟩;have YV:=Q.A;have zbT:=YV.Y;have WK:=F.d YV;have YW:=W5.d WK;have YX:=W6.C WK;have YY:=WH.C WK;have Xd:=W4.C WK;have Xe:=P.C WK;have ZW:¬(X8.2=0/\ZV.2=0)->lN m l g=cQ l g:=fun h=>by rw[WA,St (fun e=>h ⟨SF e.1,SF e.2⟩)]
  by_cases Xf:X8.2=0;rotate_left
  ·refine gX b X9 Ya @oI (Ss Xf) ?_;exact W9 _ _ _ _ _ _ _ _ Xd Xe YX YY Wy Wz (ZW (fun h=>Xf h.1)) YW (V b) (V p) (V v) (V G) (V w) aa aa
  by_cases Yb:ZV.2=0;rotate_left
  ·refine ib b X9 Ya @oI (Sj Xf) (Ss Yb) ?_;exact W9 _ _ _ _ _ _ _ _ Xd Xe YX YY Wy Wz (ZW (fun h=>Yb h.2)) YW (V b) (V p) (V v) (V G) (V w) aa aa
  refine ib b X9 Ya @oI (Sj Xf) (Sj Yb) ?_;refine LB.T 2 2 fun zaV YO H zbU ZX zbV=> ?_
  have YP:=LA.D H Xd.n;have YQ:=LA.D H Xe.n;have zbW:t.Y+2<=YU.Y:=ag WK.Y;refine gX b YP (ah.L (Xd.C ZX) X1) U.m @BC ?_;refine LB.fD (a:=YU.Y) rfl Z Z ?_;intro za3 ZY za4 zbX za5 zbY zbZ;have ZZ:=ZX.a (za5.q (by omega));refine c0 b ?_;refine(G3 BJ _ ZY YG l (YX.C ZZ) Wy za3 pw za4.c ai ai).b ?_;rintro _ za0 ⟨W0,rfl,YZ,WJ⟩;have zb0:=WJ.Y;refine⟨fun _=>LA.ar.R YO (WJ.q Z),?_⟩;have Z0:=ZZ.d WJ;refine gX b YQ (ah.L (Xe.C Z0) X2) W.m @BC ?_;refine LB.fD (a:=YU.Y) rfl Z Z ?_;intro za6 Z1 za7 zb1 za8 za9 zba;have Z2:=Z0.a za8;refine c0 b ?_;refine(G3 BJ _ Z1 YI g (YY.C Z2) Wz za6 pw za7.c ai ai).b ?_;rintro _ zbb ⟨zbc,rfl,Y0,Yc⟩;have zb2:=Yc.Y;refine⟨fun _=>LA.ar.R YO (Yc.q Z),?_⟩;have Xg:=Z2.d Yc;have zbd:=YZ.aG;have zbe:=Y0.aG;have zbf:=(YZ.f za9 zba Z).C (Yc.q Z);refine LB.eY aL ai (Xd.C Xg) X1 rfl zbd YZ.K (fun h=>SI rfl h) ?_;intro zbg Y1 Xh WL;have Y1:ae zbg t.Y W0:=Y1;refine c0 b ?_;refine LB.eY aL ai ((Xe.C Xg).f Xh WL Z) X2 rfl zbe Y0.K (fun h=>SI rfl h) ?_;intro zbh Y2 Xi WM;have Y2:ae zbh (t.Y+1) zbc:=Y2;have zbi:=Y1.f Xi WM Z;refine e6 b @c8 ?_;refine db dI zbi Z Z y.br.c.aN ?_;intro zb3 zbj Xj WN;refine e6 b @c8 ?_;refine db dI (Y2.f Xj WN Z) Z Z Q.br.c.aN ?_;intro zbk zbl Xk WO;have zbm:=zbj.f Xk WO Z;refine c0 b ?_;have zbn:∀a,a≠t.Y->a≠t.Y+1->zbk.i.N a=zbb.i.N a:=fun a WU p=>by rw[WO a p,WN a WU,WM a p,WL a WU]
  have zbo:=(((zbf.f Xh WL Z).f Xi WM Z).f Xj WN Z).f Xk WO Z;have zbp:=(((Y0.f Xh WL Z).f Xi WM Z).f Xj WN Z).f Xk WO Z;have zbq:=(((((y.br.c.C YV).C Xg).f Xh WL (fun e=>ag (y.Q _ e))).f Xi WM (fun e=>ag (y.Q _ e))).f Xj WN (fun e=>ag (y.Q _ e))).f Xk WO (fun e=>ag (y.Q _ e));have zbr:=((((Q.br.c.C Xg).f Xh WL (fun e=>ag (Q.Q _ e))).f Xi WM (fun e=>ag (Q.Q _ e))).f Xj WN (fun e=>ag (Q.Q _ e))).f Xk WO (fun e=>ag (Q.Q _ e));refine W9 (fun a=>WG.Y<=a) (fun a=>WG.Y<=a) _ _ _ _ _ _ zbm zbl ((zbo.b (fun a (n:ZY.Y<=a)=>Z)).px zbq ((bA.Q y.Q))) ((zbp.b (fun a (n:Z1.Y<=a)=>Z)).px zbr ((bA.Q Q.Q).b (fun a n=>Z))) YR YS (by rw[WA,Sn ⟨Sj Xf,Sj Yb⟩]) ?_ (V b) (V p) (V v) (V G) (V w) aa aa;exact YW.a ⟨Z,fun a n=>by rw[zbn a Z Z,Xg.N a Z]⟩
 have Z3:∀t,ad M.Y M t->ad z.Y z t:=fun t zbs=>Yu.d zbs
 rintro WE f t (⟨rfl,Yx,q,b,Yw⟩|⟨rfl,Xx,q,b⟩)
 ·refine kN ?_;exact Yv _ _ b Yw (fun h=>Yx h.2.2) (Z3 _ q)
 refine bO b @SL ?_;rw[Zi];exact⟨.mD ⟨Zz.1 rfl,Z,Xx⟩,Z3 _ q⟩
end Go.Proofs.YtgpmffbleaphkaaGreat