/-
 Documents: numbered by what is reached, in plain.
-/
import Derived.Test.YtgpmffbleaphkaaGreatDocI
open Go.Proofs.Tryz renaming underlying47->Se,prog->Sh,underlying24->Sk,underlying23->Sl,underlying27->Ss
open Nat renaming le_refl->Sf,reduceLT->Sq,reduceEqDiff->Sr,le_trans->SS,zero_add->SV,mul_one->SY,zero_le->S4
open _root_ renaming List->Sg,reduceIte->Sn,Int->Sp,if_neg->Sw,Nat->Sy,absurd->SD,UInt8->SF,eq_true->SI,if_pos->SJ,or_false->S5
open Go renaming Value->Si
open List renaming getElem_mem->Sj,all_cons->So,length_cons->St,map_cons->Su,length_append->Sv,getElem?_eq_getElem->Sx,take_of_length_le->Sz,mem_cons->SA,mem_cons_of_mem->SB,take_zero->SC,take_length->SE,sum_cons->SG,length_nil->SH,mem_cons_self->SK,take_add_one->SL,all_nil->SM,length_singleton->SN,not_mem_nil->SO,length_map->SQ,map_append->SW,length_filter_le->SX,mem_singleton->SZ,flatMap_cons->S0,mem_map->S1,map_nil->S2,filter_cons->S3,map_map->S6,sum_nil->S7
open Int renaming toNat_natCast->Sm
open Option renaming getD_some->SP,getD_none->SR
open Go.Value renaming string->SU,int->S8
set_option maxHeartbeats 8000000
set_option linter.unusedSimpArgs false
set_option linter.unusedVariables false
set_option maxRecDepth 100000
namespace Go.Cl
def jT:Sg Sp->Sp->Sp
 |[],_=>0
 |m::r,n=>if m=n then 1 else if jT r n=0 then 0 else jT r n+1
theorem BA:∀{r:Sg Sp} {n:Sp},n∈r->∃j,∃h:j<r.length,jT r n=((j+1:Sy):Sp)/\r[j]=n
 |m::r,n,h=>by
  unfold jT;by_cases e:m=n
  ·rw[SJ e];exact⟨0,aA,rfl,e⟩
  rw[Sw e];have⟨j,c,a,b⟩:=BA ((SA.1 h).resolve_left (fun q=>e q.symm):n∈r);rw[Sw Z];exact⟨j+1,by simp;omega,by rw[a];simp,by simpa using b⟩
theorem abn {r:Sg Sp}(a:r.Nodup){j:Sy}(b:j<r.length):jT r r[j]=((j+1:Sy):Sp):=by
 have⟨i,e,c,d⟩:=BA (Sj b);have:=(List.getElem_inj a).1 d;rw[c,this]
theorem iS.x {r:Sg Sp}{T:Sg (Sp×Si)}(h:iS r T)(d:r.Nodup)(n:Sp):eF n T=if n∈r then some (I (jT r n)) else Option.none:=by
 cases a:eF n T with
 |none=>rw[Sw (h.ck n a)]
 |some v=>
  obtain⟨j,b,c,rfl⟩:=h.pr n v a;rw[SJ (c▸Sj b),<-c,abn d b]
def nD (r:Sg Sp):Sy->O->O
 |0,o=>o
 |m+1,.au k n b l d=>if k=9 then(if n∈r then .au 9 (jT r n) [] [] [] else O.ck) else if k=6 then .au 6 0 [] (l.map (nD r m)) [] else if k=7\/k=8 then .au k 0 b [] ((d.map fun e=>(e.1,nD r m e.2)).filter fun e=>decide (e.2.a9≠0)) else .au k n b l d
noncomputable def cB (r:Sg Sp)(o:O):O:=nD r (SizeOf.sizeOf o) o
theorem lL {a b:Type}{f g:a->b}:∀{l:Sg a},(∀x∈l,f x=g x)->l.map f=l.map g
 |[],_=>rfl
 |x::l,h=>by rw[Su,Su,h x (SK ..),lL (fun y a=>h y (SB _ a))]
theorem ys (r:Sg Sp):∀(m a:Sy) (o:O),SizeOf.sizeOf o<=m->SizeOf.sizeOf o<=a->nD r m o=nD r a o
 |0,_,o,h,_=>ag o.g5
 |_+1,0,o,_,h=>ag o.g5
 |m+1,h+1,.au a c e i j,o,p=>by
  unfold nD;rw[lL (l:=i) (fun x o=>ys r m h x (ag (O.gD (k:=a) (n:=c) (b:=e) (d:=j) o)) (ag (O.gD (k:=a) (n:=c) (b:=e) (d:=j) o))),
   lL (l:=j) (f:=fun j=>(j.1,nD r m j.2)) (g:=fun j=>(j.1,nD r h j.2)) (fun o j=>by rw[ys r m h o.2 (ag (O.fs (k:=a) (n:=c) (b:=e) (l:=i) j)) (ag (O.fs (k:=a) (n:=c) (b:=e) (l:=i) j))])]
theorem pt (r:Sg Sp)(k a:Sp)(c:Sg SF)(e:Sg O)(h:Sg (Sg SF×O)):cB r (.au k a c e h)=if k=9 then(if a∈r then .au 9 (jT r a) [] [] [] else O.ck) else if k=6 then .au 6 0 [] (e.map (cB r)) [] else if k=7\/k=8 then .au k 0 c [] ((h.map fun i=>(i.1,cB r i.2)).filter fun j=>decide (j.2.a9≠0)) else .au k a c e h:=by
 unfold cB;obtain⟨q,i⟩:∃j,SizeOf.sizeOf (O.au k a c e h)=j+1:=⟨SizeOf.sizeOf (O.au k a c e h)-1,ag ((O.au k a c e h).g5)⟩
 rw[i]
 conv=>lhs;unfold nD
 rw[lL (l:=e) (fun x i=>ys r q _ x (ag (O.gD (k:=k) (n:=a) (b:=c) (d:=h) i)) (Sf _)),
  lL (l:=h) (f:=fun h=>(h.1,nD r q h.2)) (g:=fun h=>(h.1,nD r (SizeOf.sizeOf h.2) h.2)) (fun h i=>by rw[ys r q _ h.2 (ag (O.fs (k:=k) (n:=a) (b:=c) (l:=e) i)) (Sf _)])]
theorem Kh {a b:Type}{f g:a->Sg b}:∀{l:Sg a},(∀x∈l,f x=g x)->l.flatMap f=l.flatMap g
 |[],_=>rfl
 |x::l,h=>by rw[S0,S0,h x (SK ..),Kh (fun y a=>h y (SB _ a))]
noncomputable def ga (D:Sg (Sp×O))(r:Sg Sp):Sg (Sp×O):=r.zipIdx.map fun p=>(((p.2+1:Sy):Sp),cB r (cC D p.1).1)
theorem ox (D:Sg (Sp×O))(r:Sg Sp):(ga D r).length=r.length:=by simp[ga]
theorem yt {D:Sg (Sp×O)}{r:Sg Sp}{j:Sy}(a:j<r.length)(h:j<(ga D r).length):(ga D r)[j]=(((j+1:Sy):Sp),cB r (cC D r[j]).1):=by
 simp[ga]
theorem Ki (r:Sg Sp):∀(f:Sy) (o:O),SizeOf.sizeOf o<=f->bd o->bd (cB r o):=by
 intro f
 induction f with
 |zero=>intro o h;have:=o.g5;omega
 |succ f i=>
  intro o h x;cases x with
  |au j m z p q s=>
   rename_i t u v A g;rw[pt];split
   ·split
    ·exact .au aA aA aA (fun e h=>by cases h) (fun e h=>by cases h) (fun e h=>by cases h)
    exact .au aA aA aA (fun e h=>by cases h) (fun e h=>by cases h) (fun e h=>by cases h)
   split
   ·refine .au aA (by rw[SQ];exact m) aA (fun e h=>by cases h) (fun D B=> ?_) (fun e h=>by cases h);obtain⟨y,a,rfl⟩:=S1.1 B;exact i y (ag (O.gD (k:=t) (n:=u) (b:=v) (d:=g) a)) (q y a)
   split
   ·have w:∀e∈((g.map fun e=>(e.1,cB r e.2)).filter fun e=>decide (e.2.a9≠0)),e.1.length<=100000/\bd e.2:=by
     intro e c;obtain⟨y,a,rfl⟩:=S1.1 (List.mem_filter.1 c).1;exact⟨p y a,i y.2 (ag (O.fs (k:=t) (n:=u) (b:=v) (l:=A) a)) (s y a)⟩
    refine .au j aA ?_ (fun e c=>(w e c).1) (fun e h=>by cases h) (fun e c=>(w e c).2);have:=SX (fun e:Sg SF×O=>decide (e.2.a9≠0)) (g.map fun e=>(e.1,cB r e.2));rw[SQ] at this;omega
   exact .au j m z p q s
theorem vr {b:Type}{f g:b->Sy}:∀{a:Sg b},(∀x∈a,f x<=g x)->(a.map f).sum<=(a.map g).sum
 |[],_=>Sf _
 |x::a,h=>by
  rw[Su,Su,SG,SG];have b:=h x (SK ..);have b:=vr (a:=a) (fun y a=>h y (SB _ a));omega
theorem Kj {c:Type}{a:c->Sy}{b:c->Bool}:∀l:Sg c,((l.filter b).map a).sum<=(l.map a).sum
 |[]=>Sf _
 |x::l=>by
  have c:=Kj (a:=a) (b:=b) l;rw[S3];split<;>simp only[Su,SG]<;>omega
theorem Kk (r:Sg Sp):∀(s:Sy) (o:O),SizeOf.sizeOf o<=s->cn (cB r o)<=cn o:=by
 intro t
 induction t with
 |zero=>intro u G;have:=u.g5;omega
 |succ H m=>
  intro v K;cases v with
  |au c e h i a=>
   rw[pt,nq c e h i a];split
   ·split
    ·rw[nq];simp;omega
    show cn (.au 0 0 [] [] [])<=_;rw[nq];simp;omega
   split
   ·rw[nq,S6];have:=vr (a:=i) (f:=cn∘cB r) (g:=cn) (fun x w=>m x (ag (O.gD (k:=c) (n:=e) (b:=h) (d:=a) w)));simp only[S2,S7];omega
   split
   ·rw[nq];have j:=Kj (a:=fun y:Sg SF×O=>cn y.2) (b:=fun z=>decide (z.2.a9≠0)) (a.map fun q=>(q.1,cB r q.2));rw[S6] at j;have j:_<=(a.map fun A:Sg SF×O=>cn (cB r A.2)).sum:=j;have L:=vr (a:=a) (f:=fun B:Sg SF×O=>cn (cB r B.2)) (g:=fun D=>cn D.2) (fun E F=>m E.2 (ag (O.fs (k:=c) (n:=e) (b:=h) (l:=i) F)));simp only[S2,S7];omega
   rw[nq];exact Sf _
theorem Kl {D:Sg (Sp×O)}(a:O->Sy):∀r:Sg Sp,r.Nodup->(∀n∈r,(cC D n).2=true)->(r.map fun b=>a (cC D b).1).sum<=(D.map fun e=>if e.1∈r then a e.2 else 0).sum
 |[],_,_=>by simp
 |n::r,b,c=>by
  rw[List.nodup_cons] at b;have d:=Kl a r b.2 (fun m d=>c m (SB _ d));have⟨e,g,h,i⟩:=rV (c n (SK ..));rw[Su,SG];have j:∀c:Sg (Sp×O),(c.map fun e=>if e.1∈r then a e.2 else 0).sum+(c.map fun e=>if e.1=n then a e.2 else 0).sum=(c.map fun e=>if e.1∈n::r then a e.2 else 0).sum:=by
   intro c
   induction c with
   |nil=>rfl
   |cons d e c=>
    simp only[Su,SG,SA];simp only[SA] at c;by_cases c:d.1=n
    ·have e:d.1∉r:=by rw[c];exact b.1
     simp only[c,b.1,if_true,if_false,true_or];omega
    simp only[c,if_false,false_or];omega
  have b:=j D;have b:=Bz (a:=fun e:Sp×O=>if e.1=n then a e.2 else 0) g;simp only[h,if_true] at b;rw[i];omega
theorem Km {D:Sg (Sp×O)}(f:O->Sy){r:Sg Sp}(a:r.Nodup)(b:∀n∈r,(cC D n).2=true):(r.map fun c=>f (cC D c).1).sum<=(D.map fun e=>f e.2).sum:=
 SS (Kl f r a b) (vr (fun e _=>by split<;>omega))
noncomputable def ew (D:cz)(r:Sg Sp):cz:=⟨D.mF,D.eb,D.mG,cB r D.a7,ga D.aj r⟩
theorem abo (r:Sg Sp)(o:O):(cB r o).cj.length<=o.cj.length:=by
 cases o with
 |au k n b l d=>
  rw[pt];split
  ·split<;>exact S4 _
  split
  ·exact S4 _
  split<;>exact Sf _
theorem mW {D:cz}(h:fv D){r:Sg Sp}(c:r.Nodup)(a:∀n∈r,(cC D.aj n).2=true):fv (ew D r):=by
 have j:∀b:O->Sy,((ga D.aj r).map fun e=>b e.2)=r.map fun n=>b (cB r (cC D.aj n).1):=by
  intro b;refine List.ext_getElem (by simp[ga]) (fun i b d=> ?_);simp[ga]
 have d:∀e∈ga D.aj r,bd e.2/\e.2.cj.length<=4000:=fun e b=>by
  obtain⟨p,e,rfl⟩:=S1.1 b;have b:p.1∈r:=by
   have⟨i,k⟩:=p;have:=List.mem_zipIdx e;exact this.2.2▸Sj _
  obtain⟨e,i,-,k⟩:=rV (a _ b);have b:=abo r (cC D.aj p.1).1;rw[k] at b|-
  exact⟨Ki r _ _ (Sf _) (h.aj e i),SS b (h.cj e i)⟩
 refine⟨h.eb,?_,Ki r _ _ (Sf _) h.a7,fun e i=>(d e i).1,?_,fun e i=>(d e i).2⟩
 ·have:=Km (fun _=>1) c a;have d:∀{i:Type} (e:Sg i),(e.map fun _=>1).sum=e.length:=fun e=>by induction e with
   |nil=>rfl
   |cons x i e=>rw[Su,SG,e,St];omega
  rw[d,d] at this;show(ga D.aj r).length<=70;rw[ox];have:=h.aG;omega
 show cn (cB r D.a7)+((ga D.aj r).map fun e=>cn e.2).sum<=20000;rw[j cn];have d:=Kk r _ D.a7 (Sf _);have d:=vr (a:=r) (f:=fun n=>cn (cB r (cC D.aj n).1)) (g:=fun n=>cn (cC D.aj n).1) (fun n _=>Kk r _ _ (Sf _));have b:=Km cn c a;have:=h.uF;omega
end Go.Cl
namespace Go.Proofs.YtgpmffbleaphkaaGreat
open Go.Cl Go.Lib
theorem abp (s:J)(n:Sp):Runs Sh aw 16 [I n] s (ei s (.au 2 n [] [] [])):=by
 refine Runs.dZ 5 Tryz.func16 rfl fun f a=> ?_
 refine aq @b8 @cy (aK fun b c d e=> ?_);have e:bX.length+1=6:=rfl;refine aR a e @Ab (bh aL ai c rfl rfl rfl rfl fun g c e f=> ?_);refine bS a (ah.L c rfl) @Tryz.results16 ?_;exact ei.u (F:=fun _=>False) (aE.cI _ b 2 n) (fun j a=>a.elim) e f d (Sf _)
theorem abq (F:Sy->Prop)(s:J)(k:Sg SF)(b:Sg Si)(o:O)(n:aE F s b o)(B:bd o):
  Runs Sh aw 13 [.string ⟨k.toArray⟩,.agg b.toArray] s (GN s k o):=by
 have g:=n.aG;refine Runs.ef 9 Tryz.func13 rfl fun P a=> ?_
 refine ax a (aK fun c D p Q=> ?_);refine aW a g @eD @hE (aK fun q E h R=> ?_);have r:=p.d h;have G:aD Sh q 26 (ab s.Y 0 6)=some (.agg b.toArray):=ae.y bV (by rw[g];exact aL) (D.C h) (by rw[g]);have H:lp.length+1=7:=rfl;refine aR a G H ((sD _ o (Sf _) F q b (n.C r) B).b ?_);rintro _ S ⟨t,rfl,i,v⟩;have w:=i.aG;have⟨d,e⟩:=aO (SU ⟨k.toArray⟩::t);have l:d.length=6:=by rw[e];simp[w]
 have K:d.all aN=true:=by rw[e,So,i.K];rfl
 have x:=p0 k w;rw[<-e] at x;refine aq a x (bh bx ai (E.C v) rfl rfl l K fun y m L z=> ?_);have m:ae y c.Y d:=m;have M:aD Sh y 42 (ab c.Y 0 7)=some (.agg d.toArray):=ae.y gF (by rw[l];exact bx) m (by rw[l]);refine bS a M @Tryz.results13 ?_;have T:=p.Y;have U:=h.Y;refine⟨t,by rw[e],(i.j (u:=bI c.Y) (aF.f L z) (fun j A f=> ?_)).b (fun j A=>Z),(r.d v).a ⟨Z,fun j A=>z j Z⟩⟩;have f:some c.Y=some j:=f;injection f with f;omega
theorem vt (s:J)(n:Sp):Runs Sh aw 14 [I n] s (ei s (.au 9 n [] [] [])):=by
 refine Runs.dZ 5 Tryz.func14 rfl fun f a=> ?_
 refine aq @b8 @cy (aK fun b c d e=> ?_);have e:bX.length+1=6:=rfl;refine aR a e @Ab (bh aL ai c rfl rfl rfl rfl fun g c e f=> ?_);refine bS a (ah.L c rfl) @Tryz.results14 ?_;exact ei.u (F:=fun _=>False) (aE.cI _ b 9 n) (fun j a=>a.elim) e f d (Sf _)
theorem tu (n:Sp){a:Sg Si}(b:a.length=5):cP Sh 36 [(0,I n),(1,.agg a.toArray)]=some (.agg (I n::a).toArray):=by
 obtain⟨a,c,d,e,f,rfl⟩:=kV b;kernel_rfl
def nE:Sg Si:=bk ⟨0,[],0,O.ck,[]⟩ (av) bX (av)
theorem qD:bK Sh 29=some (.agg nE.toArray):=by kernel_rfl
theorem qE:cp (.agg nE.toArray)=true:=by kernel_rfl
theorem abr {a:Sg Si}(d:a.length=5)(b:Option Addr)(n c:Sy):cP Sh 29 [(3,.agg a.toArray),(4,.slice b n c)]=some (.agg (I 0::av::I 0::(a++[.slice b n c])).toArray):=by
 obtain⟨a,b,c,e,f,rfl⟩:=kV d;kernel_rfl
def jU:cz:=⟨0,[],0,.au 7 0 [] [] [([82,111,111,116],.au 9 5 [] [] [])],[(5,.au 6 0 [] [.au 9 9 [] [] [],.au 9 7 [] [] []] []),(7,.au 9 5 [] [] []),(9,.au 2 1 [] [] [])]⟩
theorem abt (k n:Sp)(h:k≠9/\k≠6/\k≠7/\k≠8):bG (.au k n [] [] [])=[]:=by
 rw[rn,Sw (show¬(O.au k n [] [] []).a9=9 from h.1),mE,Sw h.2.1,Sw Z];rfl
theorem abu:bG jU.a7=[5]:=by
 show bG (.au 7 0 [] [] [([82,111,111,116],.au 9 5 [] [] [])])=[5];rw[rn,Sw ai,mE,Sw ai,SJ ai];simp[sI (k:=9) rfl]
theorem abv:bG (.au 6 0 [] [.au 9 9 [] [] [],.au 9 7 [] [] []] [])=[9,7]:=by
 rw[rn,Sw ai,mE,SJ rfl];simp[sI (k:=9) rfl]
theorem abw:c5 jU.aj 4 (bG jU.a7) [] [5,9,7]:=by
 rw[abu];refine .jR 3 5 [] [] _ rfl aA ?_;have a:bG (cC jU.aj 5).1=[9,7]:=abv;rw[a];refine .jR 2 9 [7] [5] _ rfl aA ?_;have a:bG (cC jU.aj 9).1=[]:=abt 2 1 ai;rw[a];refine .jR 1 7 [] [5,9] _ rfl aA ?_;have a:bG (cC jU.aj 7).1=[5]:=sI (k:=9) rfl;rw[a];exact .e3 0 5 [] _ _ (.inr aA) (.l1 _)
theorem abx:fv jU where
 eb:=by simp[jU]
 aG:=by simp[jU]
 a7:= .au aA aA aA (fun e a=>by simp at a;subst a;decide) (fun x b=>by cases b) (fun e a=>by simp at a;subst a;exact bd.cI 9 5)
 aj:=fun e a=>by
  simp only[jU,SA,SO,S5] at a;rcases a with rfl|rfl|rfl
  ·refine .au aA aA aA (fun e a=>by cases a) (fun x b=> ?_) (fun e a=>by cases a);simp only[SA,SO,S5] at b;rcases b with rfl|rfl
   ·exact bd.cI 9 9
   exact bd.cI 9 7
  ·exact bd.cI 9 5
  exact bd.cI 2 1
 uF:=by
  simp[jU,nq]
 cj:=fun e a=>by
  simp only[jU,SA,SO,S5] at a;rcases a with rfl|rfl|rfl<;>exact S4 _
theorem aby (WL:w5 aw)
 (u:J):
   Runs Sh aw 4 [] u (Hs u true):=by
  refine Runs.dY 21 Tryz.func4 rfl rfl rfl rfl ?_;intro Xh d _;refine ax d ((vt u 5).b ?_);rintro _ WM ⟨WN,rfl,WO,H⟩;refine ax d ((abq _ WM [82,111,111,116] WN _ WO (bd.cI 9 5)).b ?_);rintro _ Xi ⟨f,rfl,K,L⟩;have v:=K.aG;simp(disch:=omega)only[d,aI,bC,Sq,↓Sn,gC (a:=(.string ⟨([82,111,111,116]:Sg SF).toArray⟩::f).toArray) Sk bx eD hE rfl (by simp[v]) (by decide)];refine du (by simp[v]) ?_;intro WQ m WR _ w;have WS:cE (fun _=>True) m (.string ⟨([82,111,111,116]:Sg SF).toArray⟩::f) ([82,111,111,116],.au 9 5 [] [] []):=⟨f,rfl,(K.C w).b (fun _ _=>trivial),ai⟩;have WT:aU cE 6 (fun _=>True) m [([82,111,111,116],.au 9 5 [] [] [])] (.string ⟨([82,111,111,116]:Sg SF).toArray⟩::f):=by
   have:=aU.al.hB (a:= .string ⟨([82,111,111,116]:Sg SF).toArray⟩::f) (by rw[St,v]) WS
   simpa using this
  refine ax d ((OT WL (fun _=>True) m WQ [([82,111,111,116],.au 9 5 [] [] [])] _ WR.c WT ai (fun Xj M=>by simp at M;subst M;exact bd.cI 9 5)).b ?_);rintro _ O ⟨n,rfl,o,P⟩;have o:aE (fun j=>m.Y<=j) O n jU.a7:=o;refine ax d ((vt O 9).b ?_);rintro _ WU ⟨x,rfl,Q,R⟩;refine ax d ((vt WU 7).b ?_);rintro _ Xk ⟨y,rfl,S,z⟩;have A:=Q.aG;have B:=S.aG;simp(disch:=omega)only[d,aI,bC,Sq,Sr,↓Sn,Qp (a:=x.toArray) (c:=y.toArray) Sl aL b8 cy rfl (by simp[A]) (by simp[B]) (by decide)];refine du (by simp[A,B]) ?_;intro WV T WW _ p;have WX:aU aE 5 (fun _=>True) T [.au 9 9 [] [] [],.au 9 7 [] [] []] (x++y):=by
   have:=(aU.al.hB (a:=x) A ((Q.C (z.d p)).b (fun _ _=>trivial))).hB (a:=y) B ((S.C p).b (fun _ _=>trivial))
   simpa using this
  refine ax d ?_;refine(OW (fun _=>True) T WV [.au 9 9 [] [] [],.au 9 7 [] [] []] _ WW.c WX ai (fun Xl U=>by
   simp only[SA,SO,S5] at U;rcases U with rfl|rfl
   ·exact bd.cI 9 9
   exact bd.cI 9 7)).b ?_
  rintro _ WY ⟨g,rfl,W,X⟩;have q:=W.aG;refine aq d (tu 5 q) ((vt WY 5).b ?_);rintro _ WZ ⟨h,rfl,Wy,r⟩;have s:=Wy.aG;refine aq d (tu 7 s) ((abp WZ 1).b ?_);rintro _ Xm ⟨i,rfl,Wz,k⟩;have t:=Wz.aG;simp(disch:=omega)only[d,aI,bD,bC,Sq,Sr,↓Sn,tu 9 t,Qq (a:=(I 5::g).toArray) (b:=(I 7::h).toArray) (d:=(I 9::i).toArray) Ss eG nZ rr rfl (by simp[q]) (by simp[s]) (by simp[t]) (by decide)];refine du (by simp[q,s,t]) ?_;intro W0 e WA _ l;have W1:aU g7 6 (fun _=>True) e jU.aj (I 5::(g++I 7::h++I 9::i)):=by
   have W2:g7 (fun _=>True) e (I 9::i) (9,.au 2 1 [] [] []):=⟨i,rfl,(Wz.C l).b (fun _ _=>trivial)⟩;have:=((aU.al.hB (a:=I 5::g) (by rw[St,q]) (⟨g,rfl,(W.C ((r.d k).a (l.q (SS r.Y k.Y)))).b (fun _ _=>trivial)⟩:g7 (fun _=>True) e (I 5::g) (5,.au 6 0 [] [.au 9 9 [] [] [],.au 9 7 [] [] []] []))).hB (a:=I 7::h) (by rw[St,s]) (⟨h,rfl,(Wy.C (k.d l)).b (fun _ _=>trivial)⟩:g7 (fun _=>True) e (I 7::h) (7,.au 9 5 [] [] []))).hB (a:=I 9::i) (by rw[St,t]) W2
   simpa [jU] using this
  obtain⟨WB,WC,WD,rfl⟩:∃W3 W4 W5,W0= .slice W3 W4 W5:=by cases WA<;>exact⟨_,_,_,rfl⟩
  have WE:=o.aG;refine aW d (abr WE) @qD @qE (aK fun Xn W6 WG Xo=> ?_);have W7:nE.length+1=10:=rfl;have Xp:=H.Y;have Xq:=L.Y;have Xr:=w.Y;have Xs:=P.Y;have Xt:=R.Y;have Xu:=z.Y;have Xv:=p.Y;have Xw:=X.Y;have Xx:=r.Y;have Xy:=k.Y;have Xz:=l.Y;have XW:=WG.Y;have WH:=(((((R.d z).a (p.q Z)).a (X.q Z)).a (r.q Z)).a (k.q Z)).a (l.q Z);have D:c2 (fun _=>True) e (av) n (.slice WB WC WD) _ jU:=⟨.al,bA.gE (fun j WI=>trivial),(o.C WH).b (fun _ _=>trivial),WA.c,bA.gE (fun j WI=>trivial),W1⟩;have W8:=nX D;have W9:=nY D;refine aq d W7 (bh mH ai W6 rfl rfl W8 W9 fun WJ E XX Xa=> ?_);have E:ae WJ e.Y (bk jU (av) n (.slice WB WC WD)):=E;have F:=WG.a ⟨Z,fun j WI=>Xa j Z⟩;refine aq d (dV E WE) ((abl (fun _=>True) WJ jU _ n _ _ (D.C F) abx 4 _ abw ai).b ?_);rintro Xb XY ⟨Xc,-,WK⟩;simp(disch:=omega)only[d,aI,bC,Sq,↓Sn,Qr Se aQ gj];refine du rfl ?_;intro Xd Xe Xf _ G;simp(disch:=omega)only[d,aI,bD,bB,Sq,Sr,↓Sn];refine(Pe Xe Xb Xd [5,9,7] [5,9,7] (Xc.C G).c Xf.c ai).b ?_;rintro _ XZ ⟨rfl,Xg⟩;simp(disch:=omega)only[d,aI,b6,Sq,↓Sn,aI,cO,b6,Sq,↓Sn,Tryz.results4];have X0:=F.Y;have X1:=WK.Y;have X2:=G.Y;exact⟨rfl,(((((((H.d L).a (w.q Z)).a (P.q Z)).a (WH.q Z)).d F).a (WK.q Z)).a (G.q Z)).a (Xg.q Z)⟩
end Go.Proofs.YtgpmffbleaphkaaGreat
namespace Go.Cl
def tw (s:J)(w:Sy)(r:Sg Sp):Prop:=∃(D:cz) (c:Si) (a:Sg Si) (d:Si) (e m:Sy) (f:Si) (b:Sg (Sp×Si)),a.length=5/\ae s w (mj D c a d e m f)/\fu s m b/\iS r b
theorem tw.C {s a:J}{w:Sy}{r:Sg Sp}(h:tw s w r)(k:ad s.Y s a):tw a w r:=by
 have⟨D,b,c,d,e,m,f,g,i,j,l,n⟩:=h;exact⟨D,b,c,d,e,m,f,g,i,j.C k,l.C k,n⟩
theorem aE.Kn {F:Sy->Prop}{s:J}{a:Sg Si}{o:O}(h:aE F s a o):a.getD 0 undef=I o.a9:=by
 cases o;obtain⟨_,_,_,_,_,rfl,_⟩:=h.ea;rfl
noncomputable def k8 (r:Sg Sp)(d:Sg (Sg SF×O)):Sg (Sg SF×O):=(d.map fun e=>(e.1,cB r e.2)).filter fun e=>decide (e.2.a9≠0)
theorem Ko (r:Sg Sp){d:Sg (Sg SF×O)}{i:Sy}(h:i<d.length):k8 r (d.take (i+1))=if(cB r d[i].2).a9=0 then k8 r (d.take i) else k8 r (d.take i)++[(d[i].1,cB r d[i].2)]:=by
 unfold k8;rw[SL,Sx h];simp only[Option.toList_some,SW,List.filter_append,Su,S2,S3,List.filter_nil];by_cases c:(cB r d[i].2).a9=0
 ·simp[c]
 simp[c]
theorem Kp (r:Sg Sp)(d:Sg (Sg SF×O))(i:Sy):(k8 r (d.take i)).length<=i:=by
 unfold k8;refine SS (SX ..) ?_;simp;omega
theorem Kq (r:Sg Sp)(n:Sp)(b:Sg SF)(l:Sg O)(d:Sg (Sg SF×O)):cB r (.au 9 n b l d)=if n∈r then .au 9 (jT r n) [] [] [] else O.ck:=by rw[pt,SJ rfl]
theorem Kr (r:Sg Sp)(n:Sp)(b:Sg SF)(l:Sg O)(d:Sg (Sg SF×O)):cB r (.au 6 n b l d)= .au 6 0 [] (l.map (cB r)) []:=by rw[pt,Sw ai,SJ rfl]
theorem Ks (r:Sg Sp){k:Sp}(a:k=7\/k=8)(n:Sp)(b:Sg SF)(l:Sg O)(d:Sg (Sg SF×O)):cB r (.au k n b l d)= .au k 0 b [] (k8 r d):=by rw[pt,Sw Z,Sw Z,SJ a];rfl
theorem Kt (r:Sg Sp){k:Sp}(a:k≠9)(c:k≠6)(e:¬(k=7\/k=8))(n:Sp)(b:Sg SF)(l:Sg O)(d:Sg (Sg SF×O)):cB r (.au k n b l d)= .au k n b l d:=by rw[pt,Sw a,Sw c,Sw e]
end Go.Cl
namespace Go.Proofs.YtgpmffbleaphkaaGreat
open Go.Cl Go.Lib
theorem abz (s:J)(n:Sp):Runs Sh aw 76 [I n] s (ei s (.au 9 n [] [] [])):=by
 refine Runs.dZ 5 Tryz.func76 rfl fun f a=> ?_
 refine aq @b8 @cy (aK fun b c d e=> ?_);have e:bX.length+1=6:=rfl;refine aR a e @Ab (bh aL ai c rfl rfl rfl rfl fun g c e f=> ?_);refine bS a (ah.L c rfl) Tryz.results76 ?_;exact ei.u (F:=fun _=>False) (aE.cI _ b 9 n) (fun j a=>a.elim) e f d (Sf _)
theorem Ku {r:Sg Sp}(Zn:r.Nodup)(Xn:Sy):
  ∀(X5:Sy) (WM:O),SizeOf.sizeOf WM<=X5->∀(Xo:Sy->Prop) (T:J) (Yl:Sg Si),tw T Xn r->aE Xo T Yl WM->bd WM->
  Runs Sh aw 59 [ab Xn 0 13,.agg Yl.toArray] T (ei T (cB r WM)):=by
 intro X5
 induction X5 with
 |zero=>intro WM A;have:=WM.g5;omega
 |succ X5 YQ=>
 intro WM Z2 Xo T Yl Zo Xp YR;have Zp:=YR;cases WM with
 |au p WT WE B m=>
 obtain⟨YS,YT,YU,Zq,Z3,rfl,Zr,YV,YW,Z4,Z5,Z6,Zs,Zt⟩:=Xp.ea;cases YR with
 |au Z7 Z8 Z9 zaa Zu Zv=>
 refine Runs.cS 89 Tryz.func59 rfl fun h a s Ym=> ?_
 refine aq a Ym (aK fun w Zw YX zab=> ?_);have WG:bX.length+1=6:=rfl;refine bp a @St.{0} @SH.{0} @b8 @cy (aK fun g Xq Yn zac=> ?_);have WU:=Zw.C Yn;have zad:=YX.Y;have zae:=Yn.Y;have WA:=YX.d Yn;have X6:=Zo.C WA;have Xr:=WU.v aB 0 6 (I p);have YY:=WU.v lq 1 6 (I WT);have Xs:∀(h:an) (WH:J) (U:Sg Si) (Yo:O),h.e=89->h.N 4=ab w.Y 0 6->ae WH w.Y U->U.length=5->aE (fun j=>g.Y<=j) WH U Yo->ad T.Y T WH->eW Sh Tryz.f59.results.toList (ei T Yo) .bF h WH:=by
  intro h WH U Yo a t Zx Zy Xp Zz;refine b0 a t (ah.L Zx Zy) Tryz.results59 ?_;exact⟨U,rfl,Xp.b (fun j f=>Z),Zz⟩
 by_cases Xt:p=9
 ·subst Xt;have⟨zaf,zag,zah,zai,zaj,zak,zal,zam,YZ,Y0,ZA,ZB⟩:=X6;have WV:=ZA.w7 nB nA gj rW WT;rw[Kq];rw[ZB.x Zn WT] at WV;by_cases Y1:WT∈r
  ·rw[SJ Y1] at WV|-
   simp only[SP,Option.isSome_some] at WV;refine kP a s WG @a6 @eE Xr YY @tr (tt Y0 YZ) WV @uA @nW @w6 @oY @oZ ?_;refine(abz g (jT r WT)).b ?_;rintro _ X7 ⟨U,rfl,W,H⟩;have WN:=W.aG;refine ax a (bh aL ai (Xq.C H) rfl rfl WN W.K fun Yp WI WW K=> ?_);refine ax a ?_;exact Xs _ _ U _ (V a) aa WI WN (W.f WW K Z) ((WA.d H).a ⟨Z,fun j f=>K j Z⟩)
  rw[Sw Y1] at WV|-
  simp only[SR,Option.isSome_none] at WV;refine kP a s WG @a6 @eE Xr YY @tr (tt Y0 YZ) WV @uA @nW @w6 @oY @oZ ?_;refine(Ac g).b ?_;rintro _ X7 ⟨U,rfl,W,H⟩;have WN:=W.aG;refine ax a (bh aL ai (Xq.C H) rfl rfl WN W.K fun Yp WI WW K=> ?_);refine ax a ?_;exact Xs _ _ U _ (V a) aa WI WN (W.f WW K Z) ((WA.d H).a ⟨Z,fun j f=>K j Z⟩)
 by_cases X8:p=6
 ·subst X8;rw[Kr];refine c1 a WG @a6 Xr Xt @w1 @b8 @cy (aK fun X7 Yq H zan=> ?_);refine aq a WG (bh aL ai Yq rfl rfl rfl rfl fun o L Y2 WO=> ?_);have L:ae o g.Y [I 6,I 0,av,av,av]:=L;have R:=H.a ⟨Z,fun j f=>WO j Z⟩;have Xu:=WA.d R;have WX:=WU.C R;have WY:=Xq.C R;have zao:=X6.C R;have ZC:=R.Y;have ZD:g.Y<o.Y:=L.n;have WZ:=WX.v ft 3 6 YT;refine aW a @c7 WZ ((YV.C Xu).g Sl) ?_;have⟨Xv,W7⟩:=aO (fun Yr j=>o.Y<=j/\¬(fun _=>False) j/\ak Yr≠some j:Si->Sy->Prop);refine aZ.w (fun X h D=>∃(i:Sy) (y:Si) (WJ:Sg Si),X=B.length-i/\i<=B.length/\ao D 5 y i WJ/\aU aE 5 (Xv y) D ((B.take i).map (cB r)) WJ/\ay o.Y y/\ae D w.Y bX/\ae D g.Y [I 6,I 0,av,y,av]/\ad g.Y o D/\h.e=89/\h.N 0=ab Xn 0 13/\h.N 4=ab w.Y 0 6/\h.N 7=ab g.Y 0 6/\h.N 37=YT/\h.N 38=I (B.length:Sy)/\h.N 39=I (i:Sy))
   (fun X h D=>X= .bb 1/\∃(y:Si) (WJ:Sg Si),ao D 5 y B.length WJ/\aU aE 5 (Xv y) D (B.map (cB r)) WJ/\ay o.Y y/\ae D w.Y bX/\ae D g.Y [I 6,I 0,av,y,av]/\ad g.Y o D/\h.e=89/\h.N 4=ab w.Y 0 6/\h.N 7=ab g.Y 0 6)
   ⟨0,av,[],rfl,Z,.al,by rw[SC];exact aU.al,ay.al _,WY,L,ad.p _ _,V a,V s,aa,aa,aa,aa,aa⟩ ?_ ?_
  ·clear a s Ym h Yq L WO WX WY WZ;rintro ZE Ys X h D ⟨i,y,WJ,rfl,ZF,z,Wy,v,WK,M,E,a,s,t,W8,Y3,Yt,Yu⟩;have Yv:=E.Y;have Xw:=R.a E;have Xx:=WA.d Xw;have Y4:=YV.C Xx;by_cases Wz:i<B.length;rotate_left
   ·obtain rfl:i=B.length:=Z;rw[SE] at Wy;refine aW a Yt Yu (Z:¬((B.length:Sy):Sp)<((B.length:Sy):Sp)) ?_;exact Ys _ _ _ ⟨rfl,y,WJ,z,Wy,v,WK,M,E,V a,V t,V W8⟩
   have Xy:=Y4.r (k:= .i64) (x:=(i:Sp)) Sl aL Z Z;rw[Sm] at Xy;have W9:=Y4.dm bV aL Wz;have P:=(Zs.H i Wz).C Xx;have⟨Xa,W0⟩:=aO ((Zq.drop (i*5)).take 5);rw[<-W0] at W9 P;have W1:=P.aG;refine cX a Y3 Yt Yu (SI (Z:(i:Sp)<(B.length:Sp))) Xy W9 @b8 @cy (aK fun W2 W3 Yw WQ=> ?_);refine aq a WG (bh aL ai W3 rfl rfl W1 P.K fun F WB ZG Yx=> ?_);have WB:ae F D.Y Xa:=WB;have Q:=Yw.a ⟨Z,fun j f=>Yx j Z⟩;have ZH:=Q.Y;have M:=M.C Q;have z:=z.C Q;have P:=P.C Q;refine ax a (LB.T 1 1 fun ZI Xb Xc _ WL ZJ=> ?_);have P:=P.C WL;refine gY a s W8 @c7 (LA.D Xc M.n) (LA.D Xc WB.n) ((M.C WL).o ft 3 6:aD Sh (aS F 1) 23 (ab g.Y 3 6)=some y) (ae.y bV (by rw[W1];exact aL) (WB.C WL) (by rw[W1]):aD Sh (aS F 1) 26 (ab D.Y 0 6)=some (.agg Xa.toArray)) z.m P.m ((YQ B[i] (ag (O.gD (k:=6) (n:=WT) (b:=WE) (l:=B) (d:=m) (Sj Wz))) Xo (aS F 1) _ ((X6.C (Xw.d Q)).C (WL.q Z)) P (Zu _ (Sj Wz))).b ?_);rintro _ Yy ⟨W4,rfl,Xd,Xe⟩;have ZK:=Xe.Y;refine⟨fun _=>LA.ar.R Xb (Xe.q Z),?_⟩;have WC:=Xd.aG;simp(disch:=omega)only[gC (a:=W4.toArray) Sl aL b8 cy rfl WC (by decide)];refine LB.fD (a:=F.Y) WC Z (Sf _) ?_;intro ZL Yz YA zap YB Y5 ZM;have Xf:ad F.Y F Yz:=(WL.d Xe).a YB;have zaq:=Xf.Y;have Xg:aE (Xv y) Yz W4 (cB r B[i]):=by
    refine(Xd.j (u:=bI F.Y) (aF.f Y5 ZM) (fun j f e=> ?_)).b (fun j f=> ?_)
    ·have e:some F.Y=some j:=e;injection e with e;omega
    rw[W7];exact⟨Z,fun A=>A,fun e=>ag (z.z _ e)⟩
   refine ax a (LB.jE Sl Sl (.inl ⟨_,rfl⟩) aL pZ b8 rfl (z.C Xf) YA.c.X WC ai Xg.K Z Z (a:=o.Y) v Z (fun A=>SD rfl A) (fun j f=>ag (Xb j f)) fun G Xz Xh Y6 XW YC=> ?_);have ZN:=XW.Y;have Y7:=(Wy.C cm Q).C cm Xf;rw[W7] at Y7 Xg;have XX:=Y7.dO cm WC Xg XW YC;rw[show(fun j=>o.Y<=j/\¬(fun _=>False) j/\ak G≠some j)=Xv G by rw[W7]] at XX;refine aR a W8 @c7 (LB.gV nU ai ((M.C Xf).j XW ((fun e=>ag (v _ e)):ak y≠some g.Y)) (b:=3) (c:=6) rfl (a:=[G]) Xh.c.gA rfl aA (by simp[Xh.c.aN]) (fun A=>SD rfl A) fun X9 ZO YD Ya=> ?_);have YE:∀j,Xv G j->ak (bI g.Y)≠some j:=fun j f e=>by
    have e:some g.Y=some j:=e;injection e with e;rw[W7] at f;have:=f.1;omega
   refine aq a Yu ?_;refine aH (B.length-(i+1)) Z ⟨i+1,G,WJ++W4,rfl,Z,Xh.f YD Ya ((fun e=>ag (Y6 _ e)):ak G≠some g.Y),?_,Y6,(((WK.C Q).C Xf).j XW (fun e=>ag ((v:∀j,ak y=some j->o.Y<=j) _ e))).f YD Ya Z,(ZO:ae X9 g.Y [I 6,I 0,av,G,av]),?_,V a,V s,V t,V W8,V Y3,by simp only[cx,↓Sn,Sr,Yt],by simp only[cx,↓Sn];rfl⟩
   ·rw[SL,Sx Wz,SW];exact XX.j cm (aF.f YD Ya:aF (bI g.Y) Xz X9) YE
   exact(((E.a (Q.q (by omega))).a (Xf.q (by omega))).a ((XW.C v (by omega)).q (by omega))).a ⟨by omega,fun j f=>Ya j (by omega)⟩
  clear a s Ym h Yq L WO WX WY WZ;rintro X h D ⟨rfl,y,WJ,z,Wy,v,WK,M,E,a,t,W8⟩;have Yv:=E.Y;refine aW a t W8 (ah.L M rfl) ?_;refine bh aL ai WK rfl rfl rfl (by simp only[So,SM,(z.c.aN)];rfl) ?_;intro W2 W3 WQ WR;refine ax a ?_;refine Xs _ _ [I 6,I 0,av,y,av] _ (V a) (V t) (W3:ae W2 w.Y [I 6,I 0,av,y,av]) rfl ?_ ((Xu.a (E.q (by omega))).a ⟨Z,fun j f=>WR j Z⟩);refine aE.lZ (.al) (by rw[SQ];exact(z.c.f WQ WR (fun e=>ag (v _ e)))) (.al) (bA.Q (ay.al _)) (bA.gE (fun j f=>ag (v _ f))) (bA.Q (ay.al _)) ((Wy.j cm (aF.f WQ WR:aF (bI w.Y) D W2) (fun j f e=> ?_)).b cm (fun j f=>by rw[W7] at f;have:=f.1;omega)) aU.al;have e:some w.Y=some j:=e;injection e with e;rw[W7] at f;have:=f.1;omega
 by_cases XY:p=7\/p=8
 ·rw[Ks r XY];refine cl a WG @a6 Xr Xt X8 ?_;refine ux (fun XZ ZP=>g=ZP/\XZ.e=89/\XZ.N 0=ab Xn 0 13/\XZ.N 3=ab T.Y 0 6/\XZ.N 4=ab w.Y 0 6/\XZ.N 53= .bool true) ?_ ?_
  ·intro zar Y8;by_cases X0:p=7
   ·refine ax (SI X0) ?_;exact Y8 _ _ ⟨rfl,V a,V s,aa,aa,aa⟩
   have YF:p=8:=XY.resolve_left X0;refine aR a X0 (SI YF) ?_;exact Y8 _ _ ⟨rfl,V a,V s,aa,aa,aa⟩
  rintro h _ ⟨rfl,a,s,Xi,t,YG⟩;refine aq a YG ?_;refine LB.T 1 1 fun ZI Xb Xc _ WL ZJ=> ?_
  have Yb:=WU.C WL;have Y9:=Zr.C WA;have YH:=LA.D Xc WU.n;refine c1 a Xi @a6 @c8 YH (Yb.o aB 0 6:aD Sh (aS g 1) 3 (ab T.Y 0 6)=some (I p)) (Yb.o cJ 2 6:aD Sh (aS g 1) 22 (ab T.Y 2 6)=some YS) Y9.m ?_;refine(z3 (aS g 1) YS WE (Y9.C WL) Z).b ?_;rintro S X7 ⟨Xj,YI,H⟩;have zas:=H.Y;refine⟨fun _=>LA.ar.R Xb (H.q Z),?_⟩;have YJ:bn (.agg #[I p,I 0,S,av,av]) (.agg #[I p,I 0,S,av,av])=true:=um (by simp[b9]) (by simp[b9]) Xj.c.oV (by simp[b9]) (by simp[b9]);refine bp a (GR p Xj.c.gA) YJ @b8 @cy ?_;refine LB.j7 Z ?_;intro Yp WI WW K;refine aq a WG ?_;refine LB.eY aL ai WI rfl rfl rfl (by simp only[So,SM,(Xj.c.aN)];rfl) (fun A=>SD rfl A) ?_;intro o L Y2 WO;have L:ae o g.Y [I p,I 0,S,av,av]:=L;have R:=((WL.d H).a ⟨Z,fun j f=>K j Z⟩).a ⟨Z,fun j f=>WO j Z⟩;have Xu:=WA.d R;have Yc:=(Xj.f WW K (fun e=>ag (YI _ e))).f Y2 WO (fun e=>ag (YI _ e));have Yd:∀j,ak S=some j->g.Y+1<=j/\j<o.Y:=fun j f=>⟨ag (YI j f),Yc.z j f⟩
  have WX:=WU.C R;have WY:=Xq.C R;have ZC:=R.Y;have ZD:g.Y<o.Y:=L.n;have WZ:=WX.v eh 4 6 YU;refine bp a Xi @bJ WZ ((YW.C Xu).g Sk) ?_;have⟨X1,Xk⟩:=aO (fun Yr j=>o.Y<=j/\¬(fun _=>False) j/\ak Yr≠some j:Si->Sy->Prop);refine aZ.w (fun X h q=>∃(i:Sy) (y:Si) (WD:Sg Si),X=m.length-i/\i<=m.length/\ao q 6 y (k8 r (m.take i)).length WD/\aU cE 6 (X1 y) q (k8 r (m.take i)) WD/\ay o.Y y/\ao q 1 S WE.length (aM WE)/\ae q w.Y bX/\ae q g.Y [I p,I 0,S,av,y]/\ad g.Y o q/\h.e=89/\h.N 0=ab Xn 0 13/\h.N 4=ab w.Y 0 6/\h.N 10=ab g.Y 0 6/\h.N 63=YU/\h.N 64=I (m.length:Sy)/\h.N 65=I (i:Sy))
   (fun X h q=>X= .bb 3/\∃(y:Si) (WD:Sg Si),ao q 6 y (k8 r m).length WD/\aU cE 6 (X1 y) q (k8 r m) WD/\ay o.Y y/\ao q 1 S WE.length (aM WE)/\ae q w.Y bX/\ae q g.Y [I p,I 0,S,av,y]/\ad g.Y o q/\h.e=89/\h.N 4=ab w.Y 0 6/\h.N 10=ab g.Y 0 6)
   ⟨0,av,[],rfl,Z,.al,by rw[SC];exact aU.al,ay.al _,Yc,WY,L,ad.p _ _,V a,V s,V t,aa,aa,aa,aa⟩ ?_ ?_
  ·clear a s Xi t YG h YJ WI L K WO Xj Yc WX WY WZ YH Yb Xb Xc;rintro ZE Ys X h q ⟨i,y,WD,rfl,ZF,z,Wy,v,X2,WK,M,E,a,s,t,W5,YK,Ye,Yf⟩;have Yv:=E.Y;have Xw:=R.a E;have Xx:=WA.d Xw;have Za:=YW.C Xx;by_cases Wz:i<m.length;rotate_left
   ·obtain rfl:i=m.length:=Z;rw[SE] at Wy z;refine aW a Ye Yf (Z:¬((m.length:Sy):Sp)<((m.length:Sy):Sp)) ?_;exact Ys _ _ _ ⟨rfl,y,WD,z,Wy,v,X2,WK,M,E,V a,V t,V W5⟩
   have zat:=Kp r m i;have ZQ:(i:Sp)<(m.length:Sp):=Z;have Xy:=Za.r (k:= .i64) (x:=(i:Sp)) Sk bx Z Z;rw[Sm] at Xy;have W9:=Za.dm gF bx Wz;have⟨Zb,ZR,YL,ZS⟩:=Zt.H i Wz;have ZT:=YL.aG;have P:=YL.C Xx;rw[ZR] at W9;have⟨Xa,W0⟩:=aO (SU ⟨(m[i].1).toArray⟩::Zb);rw[<-W0] at W9;have W1:Xa.length=6:=by rw[W0];simp[ZT]
   have ZU:Xa.all aN=true:=by rw[W0,So,YL.K];rfl
   refine cX a YK Ye Yf (SI ZQ) Xy W9 @eD @hE (aK fun W2 W3 Yw WQ=> ?_);have ZV:lp.length+1=7:=rfl;refine aq a ZV (bh bx ai W3 rfl rfl W1 ZU fun F WB ZG Yx=> ?_);have WB:ae F q.Y Xa:=WB;have Q:=Yw.a ⟨Z,fun j f=>Yx j Z⟩;have ZH:=Q.Y;have P:=P.C Q;have ZW:=X6.C (Xw.d Q);have zau:=WB.n;have ZX:∀WH,ad F.Y F WH->aD Sh WH 9 (ab q.Y 0 7)=some (.string ⟨(m[i].1).toArray⟩):=fun WH A=>by
    have:=(WB.C A).B fH (a:=0) (c:=7) (by rw[W1]) Z;rw[this,W0];rfl
   have ZY:aD Sh F 26 (ab q.Y 1 7)=some (.agg Zb.toArray):=by
    have:=ae.ka bV aL WB (a:=1) (c:=7) (by rw[W1]) Z;rw[this,W0,List.drop_succ_cons,List.drop_zero,Sz Z]
   refine aW a s @kp ZY ((YQ m[i].2 (ag (O.fs (k:=p) (n:=WT) (b:=WE) (l:=B) (d:=m) (Sj Wz))) Xo F _ ZW P (Zv _ (Sj Wz))).b ?_);rintro _ Yy ⟨W4,rfl,Xd,Xe⟩;have ZK:=Xe.Y;have WC:=Xd.aG;refine aR a @b8 @cy (aK fun Yz ZZ YB Y5=> ?_);refine aq a WG (bh aL ai ZZ rfl rfl WC Xd.K fun Xz Yg zav Z0=> ?_);have Yg:ae Xz Yy.Y W4:=Yg;have YM:=YB.a ⟨Z,fun j f=>Z0 j Z⟩;have Zc:=Xe.d YM;have W6:=Q.d Zc;have ZN:=YM.Y;have YN:=Xd.C YM;have Zd:aD Sh Xz 3 (ab Yy.Y 0 6)=some (I (cB r m[i].2).a9):=by
    have:=Yg.B aB (a:=0) (c:=6) (by rw[WC]) Z;rw[this,YN.Kn]
   have Xh:=z.C W6;have Ze:=Wy.C bY W6;have Zf:=X2.C W6;have Zg:=WK.C W6;have YO:=M.C W6;have Xl:=Ko r Wz;by_cases Yh:(cB r m[i].2).a9=0
   ·rw[SJ Yh] at Xl;refine bp a Yf @a6 Zd Yh ?_;exact aH (m.length-(i+1)) Z ⟨i+1,y,WD,rfl,Z,by rw[Xl];exact Xh,by rw[Xl];exact Ze,v,Zf,Zg,YO,E.a (W6.q (by omega)),V a,V s,V t,V W5,V YK,V Ye,aa⟩
   rw[Sw Yh] at Xl;have⟨X3,Yi⟩:=aO (SU ⟨(m[i].1).toArray⟩::W4);have Yj:X3.length=6:=by rw[Yi];simp[WC]
   have Zh:=p0 m[i].1 WC;rw[<-Yi] at Zh;simp(disch:=omega)only[aI,bD,bC,Sq,Sr,↓Sn,a,W5,a6,bJ,jH,Zd,Yh,(YO.o eh 4 6:aD Sh Xz 24 (ab g.Y 4 6)=some y),ZX _ Zc,ah.L Yg WC,Zh,gC (a:=X3.toArray) Sk bx eD hE rfl Yj ai];refine du (by simp[Yj]) ?_;intro ZL X9 YA zaw WS;have zax:=WS.Y;have Xg:cE (X1 y) X9 X3 (m[i].1,cB r m[i].2):=by
    refine⟨W4,Yi,(YN.C WS).b (fun j f=> ?_),ZS⟩;rw[Xk];exact⟨Z,fun A=>A,fun e=>ag (z.z _ e)⟩
   refine ax a (hv Sk Sk (.inl ⟨_,rfl⟩) bx nm eD rfl (Xh.C WS) YA.c.X Yj ai (show X3.all aN=true by rw[Yi,So,YN.K];rfl) Z Z v Z fun G Zi YP Zj zay Xm YC=> ?_);have zaz:=Xm.Y;have Zk:=Ze.C bY WS;rw[Xk] at Zk Xg;have XX:=Zk.dO bY Yj Xg Xm YC;rw[show(fun j=>o.Y<=j/\¬(fun _=>False) j/\ak G≠some j)=X1 G by rw[Xk]] at XX;have Zl:∀j,ak y=some j->o.Y<=j:=v
   refine aR a W5 @bJ (su mC ai ((YO.C WS).j Xm ((fun e=>ag (v _ e)):ak y≠some g.Y)) (b:=4) (c:=6) rfl (a:=[G]) YP.c.gA rfl aA (by simp[YP.c.aN]) fun Zm Z1 Yk X4=> ?_);have YE:∀j,X1 G j->ak (bI g.Y)≠some j:=fun j f e=>by
    have e:some g.Y=some j:=e;injection e with e;rw[Xk] at f;have:=f.1;omega
   refine aq a Yf ?_;refine aH (m.length-(i+1)) Z ⟨i+1,G,WD++X3,rfl,Z,?_,?_,Zj,((Zf.C WS).j Xm (fun j f e=>bq ((Yd j f).2) (Zl _ e)):ao Zi 1 S WE.length (aM WE)).f Yk X4 (fun e=>ag ((Yd _ e).1)),((Zg.C WS).j Xm (fun e=>ag (Zl _ e))).f Yk X4 Z,(Z1:ae Zm g.Y [I p,I 0,S,av,G]),?_,V a,V s,V t,V W5,V YK,by simp only[cx,↓Sn,Sr,Ye],by simp only[cx,↓Sn];rfl⟩
   ·rw[Xl,Sv,SN];exact YP.f Yk X4 ((fun e=>ag (Zj _ e)):ak G≠some g.Y)
   ·rw[Xl];exact XX.j bY (aF.f Yk X4:aF (bI g.Y) Zi Zm) YE
   exact(((E.a (W6.q (by omega))).a (WS.q (by omega))).a ((Xm.C v (by omega)).q (by omega))).a ⟨by omega,fun j f=>X4 j (by omega)⟩
  clear a s Xi t YG h YJ WI L K WO Xj Yc WX WY WZ YH Yb Xb Xc;rintro X h q ⟨rfl,y,WD,z,Wy,v,X2,WK,M,E,a,t,W5⟩;have Yv:=E.Y;refine aW a t W5 (ah.L M rfl) ?_;refine bh aL ai WK rfl rfl rfl (by simp only[So,SM,(X2.c.aN),(z.c.aN)];rfl) ?_;intro W2 W3 WQ WR;refine ax a ?_;refine Xs _ _ [I p,I 0,S,av,y] _ (V a) (V t) (W3:ae W2 w.Y [I p,I 0,S,av,y]) rfl ?_ ((Xu.a (E.q (by omega))).a ⟨Z,fun j f=>WR j Z⟩);refine aE.lZ (X2.f WQ WR (fun e=>ag ((Yd _ e).1))).c .al (z.c.f WQ WR (fun e=>ag (v _ e))) (bA.gE (fun j f=>ag ((Yd _ f).1))) (bA.Q (ay.al _)) (bA.gE (fun j f=>ag (v _ f))) aU.al ((Wy.j bY (aF.f WQ WR:aF (bI w.Y) q W2) (fun j f e=> ?_)).b bY (fun j f=>by rw[Xk] at f;have:=f.1;omega));have e:some w.Y=some j:=e;injection e with e;rw[Xk] at f;have:=f.1;omega
 rw[Kt r Xt X8 XY];have X0:¬p=7:=fun A=>XY (.inl A)
 have YF:¬p=8:=fun A=>XY (.inr A)
 refine cX a WG @a6 Xr Xt X8 X0 YF (ah.L WU (Xp.aG)) ((wY _ _ (Sf _) Xo g _ (Xp.C WA) Zp).b fun zaA X7 Xi=> ?_);obtain⟨U,rfl,W,H⟩:=Xi.kT;have WN:=W.aG;refine ax a (bh aL ai (Xq.C H) rfl rfl WN W.K fun Yp WI WW K=> ?_);refine ax a ?_;exact Xs _ _ U _ (V a) aa WI WN (W.f WW K Z) ((WA.d H).a ⟨Z,fun j f=>K j Z⟩)
theorem Kv {s:Sg Sp}(Zh:s.Nodup)(Xf:Sy)(YM:Sg (Sp×Si))(Zi:iS s YM):
  ∀(X1:Sy) (WM:O),SizeOf.sizeOf WM<=X1->∀(Xg:Sy->Prop) (K:J) (Yi:Sg Si),fu K Xf YM->aE Xg K Yi WM->bd WM->
  Runs Sh aw 43 [.agg Yi.toArray,.map (some Xf)] K (ei K (cB s WM)):=by
 intro X1
 induction X1 with
 |zero=>intro WM t;have:=WM.g5;omega
 |succ X1 YN=>
 intro WM ZU Xg K Yi Zj Xh YO;have Zk:=YO;cases WM with
 |au r WB WC L o=>
 obtain⟨X2,X3,X4,ZV,ZW,rfl,Zl,Zm,Zn,ZX,ZY,ZZ,Zo,Zp⟩:=Xh.ea;cases YO with
 |au Z0 Z1 Z2 Z3 Zq Zr=>
 refine Runs.cS 90 Tryz.func43 rfl fun h e Yj v=> ?_
 refine aq e Yj (aK fun B Zs YP Z4=> ?_);have WN:bX.length+1=6:=rfl;refine bp e @St.{0} @SH.{0} @b8 @cy (aK fun m Xi Yk Z5=> ?_);have WU:=Zs.C Yk;have Z6:=YP.Y;have Z7:=Yk.Y;have WD:=YP.d Yk;have Yl:=Zj.C WD;have Xj:=WU.v aB 0 6 (I r);have YQ:=WU.v lq 1 6 (I WB);have Xk:∀(h:an) (Xl:J) (WH:Sg Si) (Ym:O),h.e=90->h.N 4=ab B.Y 0 6->ae Xl B.Y WH->WH.length=5->aE (fun a=>m.Y<=a) Xl WH Ym->ad K.Y K Xl->eW Sh Tryz.f43.results.toList (ei K Ym) .bF h Xl:=by
  intro h Xl WH Ym e w Zt Zu Xh Zv;refine b0 e w (ah.L Zt Zu) Tryz.results43 ?_;exact⟨WH,rfl,Xh.b (fun a g=>Z),Zv⟩
 by_cases Xm:r=9
 ·subst Xm;have WE:=Yl.N nB nA gj rW WB;rw[Kq];rw[Zi.x Zh WB] at WE;by_cases Yn:WB∈s
  ·rw[SJ Yn] at WE|-
   simp only[SP] at WE;have Zw:¬jT s WB=0:=by
    obtain⟨a,g,f,-⟩:=BA Yn;omega
   refine je e v WN @a6 @eE Xj YQ WE Zw ((vt m (jT s WB)).b ?_);rintro _ Yo ⟨WH,rfl,WV,U⟩;have Xn:=WV.aG;refine ax e (bh aL ai (Xi.C U) rfl rfl Xn WV.K fun Yp WI W2 R=> ?_);refine ax e ?_;exact Xk _ _ WH _ (V e) aa WI Xn (WV.f W2 R Z) ((WD.d U).a ⟨Z,fun a g=>R a Z⟩)
  rw[Sw Yn] at WE|-
  simp only[SR] at WE;refine je e v WN @a6 @eE Xj YQ WE @uy (bh aL ai Xi rfl rfl rfl rfl fun Yp WI W2 R=> ?_);refine ax e ?_;exact Xk _ _ bX _ (V e) aa WI rfl (aE.ck _ _) (WD.a ⟨Z,fun a g=>R a Z⟩)
 by_cases X5:r=6
 ·subst X5;rw[Kr];refine c1 e WN @a6 Xj Xm @w1 @b8 @cy (aK fun Yo Yq U Z8=> ?_);refine aq e WN (bh aL ai Yq rfl rfl rfl rfl fun q Q YR WO=> ?_);have Q:ae q m.Y [I 6,I 0,av,av,av]:=Q;have W:=U.a ⟨Z,fun a g=>WO a Z⟩;have WW:=WU.C W;have WX:=Xi.C W;have Zx:=W.Y;have Zy:m.Y<q.Y:=Q.n;refine ax e ?_;have⟨Xo,W3⟩:=aO (fun Yr a=>q.Y<=a/\¬(fun _=>False) a/\ak Yr≠some a:Si->Sy->Prop);refine aZ.w (fun X h p=>∃(i:Sy) (y:Si) (WJ:Sg Si),X=L.length-i/\i<=L.length/\ao p 5 y i WJ/\aU aE 5 (Xo y) p ((L.take i).map (cB s)) WJ/\ay q.Y y/\ae p K.Y [I 6,I WB,X2,X3,X4]/\ae p B.Y bX/\ae p m.Y [I 6,I 0,av,y,av]/\ad m.Y q p/\h.e=90/\h.N 1= .map (some Xf)/\h.N 2=ab K.Y 0 6/\h.N 4=ab B.Y 0 6/\h.N 6=ab m.Y 0 6/\h.N 7=I (i:Sy))
   (fun X h p=>X= .bb 1/\∃(y:Si) (WJ:Sg Si),ao p 5 y L.length WJ/\aU aE 5 (Xo y) p (L.map (cB s)) WJ/\ay q.Y y/\ae p B.Y bX/\ae p m.Y [I 6,I 0,av,y,av]/\ad m.Y q p/\h.e=90/\h.N 4=ab B.Y 0 6/\h.N 6=ab m.Y 0 6)
   ⟨0,av,[],rfl,Z,.al,by rw[SC];exact aU.al,ay.al _,WW,WX,Q,ad.p _ _,V e,V v,aa,aa,aa,aa⟩ ?_ ?_
  ·clear e Yj v h Yq Q WO WW WX;rintro Zz Ys X h p ⟨i,y,WJ,rfl,ZA,E,Wy,z,WY,WK,Wz,F,e,v,M,w,W4,X6⟩;have Yt:=F.Y;have Xp:=W.a F;have Xq:=WD.d Xp;have X7:=Zm.C Xq;have Xr:=WY.v ft 3 6 X3;by_cases G:i<L.length;rotate_left
   ·obtain rfl:i=L.length:=Z;rw[SE] at Wy;refine ch e M X6 @c7 Xr (X7.g Sl) (Z:¬((L.length:Sy):Sp)<((L.length:Sy):Sp)) ?_;exact Ys _ _ _ ⟨rfl,y,WJ,E,Wy,z,WK,Wz,F,V e,V w,V W4⟩
   refine ch e M X6 @c7 Xr (X7.g Sl) (SI (Z:(i:Sp)<(L.length:Sp))) (LB.T 1 1 fun YS WQ S _ H YT=> ?_);have Yu:=X7.C H;have Xs:=Yu.r (k:= .i64) (x:=(i:Sp)) Sl aL Z Z;rw[Sm] at Xs;have YU:=((Zo.H i G).C Xq).C H;refine pW e v M W4 X6 @c7 ((LA.D S WY.n)) ((LA.D S Wz.n)) (((WY.C H).o ft 3 6:aD Sh (aS p 1) 23 (ab K.Y 3 6)=some X3)) (((Wz.C H).o ft 3 6:aD Sh (aS p 1) 23 (ab m.Y 3 6)=some y)) Yu.m E.m Xs ((Yu.dm bV aL G)) (LA.iG X7 S G) YU.m @nW ?_;refine(YN L[i] (ag (O.gD (k:=6) (n:=WB) (b:=WC) (l:=L) (d:=o) (Sj G))) Xg (aS p 1) _ ((Yl.C Xp).C (H.q Z)) YU (Zq _ (Sj G))).b ?_;rintro _ W5 ⟨WR,rfl,WS,Yv⟩;have Z9:=Yv.Y;refine⟨fun _=>LA.ar.R WQ (Yv.q Z),?_⟩;have WA:=WS.aG;simp(disch:=omega)only[gC (a:=WR.toArray) Sl aL b8 cy rfl WA (by decide)];refine LB.fD (a:=p.Y) WA Z (Sf _) ?_;intro ZB X8 Yw ZC Yx YV YW;have D:ad p.Y p X8:=(H.d Yv).a Yx;have ZD:=D.Y;have W6:aE (Xo y) X8 WR (cB s L[i]):=by
    refine(WS.j (u:=bI p.Y) (aF.f YV YW) (fun a g f=> ?_)).b (fun a g=> ?_)
    ·have f:some p.Y=some a:=f;injection f with f;omega
    rw[W3];exact⟨Z,fun t=>t,fun f=>ag (E.z _ f)⟩
   refine ax e (LB.jE Sl Sl (.inl ⟨_,rfl⟩) aL pZ b8 rfl (E.C D) Yw.c.X WA ai W6.K Z Z (a:=q.Y) z Z (fun t=>SD rfl t) (fun a g=>ag (WQ a g)) fun P X9 Yy YX W7 Yz=> ?_);have ZE:=W7.Y;have YY:=Wy.C cm D;rw[W3] at YY W6;have Xt:=YY.dO cm WA W6 W7 Yz;rw[show(fun a=>q.Y<=a/\¬(fun _=>False) a/\ak P≠some a)=Xo P by rw[W3]] at Xt;have W8:∀a,ak y=some a->q.Y<=a:=z
   refine aR e W4 @c7 (LB.gV nU ai ((Wz.C D).j W7 ((fun f=>ag (z _ f)):ak y≠some m.Y)) (b:=3) (c:=6) rfl (a:=[P]) Yy.c.gA rfl aA (by simp[Yy.c.aN]) (fun t=>SD rfl t) fun YA YB Xu Xv=> ?_);have ZF:∀a,Xo P a->ak (bI m.Y)≠some a:=fun a g f=>by
    have f:some m.Y=some a:=f;injection f with f;rw[W3] at g;have:=g.1;omega
   refine aq e X6 ?_;refine aH (L.length-(i+1)) Z ⟨i+1,P,WJ++WR,rfl,Z,Yy.f Xu Xv ((fun f=>ag (YX _ f)):ak P≠some m.Y),?_,YX,((WY.C D).j W7 (fun f=>ag (W8 _ f))).f Xu Xv Z,((WK.C D).j W7 (fun f=>ag (W8 _ f))).f Xu Xv Z,(YB:ae YA m.Y [I 6,I 0,av,P,av]),?_,V e,V v,V M,V w,V W4,aa⟩
   ·rw[SL,Sx G,SW];exact Xt.j cm (aF.f Xu Xv:aF (bI m.Y) X9 YA) ZF
   exact((F.a (D.q (by omega))).a ((W7.C z Z).q Z)).a ⟨Z,fun a g=>Xv a Z⟩
  clear e Yj v h Yq Q WO WW WX;rintro X h p ⟨rfl,y,WJ,E,Wy,z,WK,Wz,F,e,w,W4⟩;have Yt:=F.Y;refine aW e w W4 (ah.L Wz rfl) ?_;refine bh aL ai WK rfl rfl rfl (by simp only[So,SM,(E.c.aN)];rfl) ?_;intro W5 YC W9 WT;refine ax e ?_;refine Xk _ _ [I 6,I 0,av,y,av] _ (V e) (V w) (YC:ae W5 B.Y [I 6,I 0,av,y,av]) rfl ?_ (((WD.d W).a (F.q (by omega))).a ⟨Z,fun a g=>WT a Z⟩);refine aE.lZ (.al) (by rw[SQ];exact(E.c.f W9 WT (fun f=>ag (z _ f)))) (.al) (bA.Q (ay.al _)) (bA.gE (fun a g=>ag (z _ g))) (bA.Q (ay.al _)) ((Wy.j cm (aF.f W9 WT:aF (bI B.Y) p W5) (fun a g f=> ?_)).b cm (fun a g=>by rw[W3] at g;have:=g.1;omega)) aU.al;have f:some B.Y=some a:=f;injection f with f;rw[W3] at g;have:=g.1;omega
 by_cases Xw:r=7\/r=8
 ·rw[Ks s Xw];refine cl e WN @a6 Xj Xm X5 ?_;refine ux (fun Xx ZG=>m=ZG/\Xx.e=90/\Xx.N 1= .map (some Xf)/\Xx.N 2=ab K.Y 0 6/\Xx.N 4=ab B.Y 0 6/\Xx.N 47= .bool true) ?_ ?_
  ·intro zaa YZ;by_cases Xy:r=7
   ·refine ax (SI Xy) ?_;exact YZ _ _ ⟨rfl,V e,V v,aa,aa,aa⟩
   have YD:r=8:=Xw.resolve_left Xy;refine aR e Xy (SI YD) ?_;exact YZ _ _ ⟨rfl,V e,V v,aa,aa,aa⟩
  rintro h _ ⟨rfl,e,v,M,w,YE⟩;refine aq e YE ?_;refine LB.T 1 1 fun YS WQ S _ H YT=> ?_
  have Ya:=WU.C H;have Y0:=Zl.C WD;have YF:=LA.D S WU.n;have Y1:=Ya.v aB 0 6 (I r);refine c1 e M @a6 @c8 YF Y1 (Ya.o cJ 2 6:aD Sh (aS m 1) 22 (ab K.Y 2 6)=some X2) Y0.m ?_;refine(ri (aS m 1) X2 WC (Y0.C H) Z).b ?_;rintro T Yo ⟨Xa,YG,U⟩;have zab:=U.Y;refine⟨fun _=>LA.ar.R WQ (U.q Z),?_⟩;have YH:bn (.agg #[I r,I 0,T,av,av]) (.agg #[I r,I 0,T,av,av])=true:=um (by simp[b9]) (by simp[b9]) Xa.c.oV (by simp[b9]) (by simp[b9]);refine bp e (GR r Xa.c.gA) YH @b8 @cy ?_;refine LB.j7 Z ?_;intro Yp WI W2 R;refine aq e WN ?_;refine LB.eY aL ai WI rfl rfl rfl (by simp only[So,SM,(Xa.c.aN)];rfl) (fun t=>SD rfl t) ?_;intro q Q YR WO;have Q:ae q m.Y [I r,I 0,T,av,av]:=Q;have W:=((H.d U).a ⟨Z,fun a g=>R a Z⟩).a ⟨Z,fun a g=>WO a Z⟩;have Yb:=(Xa.f W2 R (fun f=>ag (YG _ f))).f YR WO (fun f=>ag (YG _ f));have Yc:∀a,ak T=some a->m.Y+1<=a/\a<q.Y:=fun a g=>⟨ag (YG a g),Yb.z a g⟩
  have WW:=WU.C W;have WX:=Xi.C W;have Zx:=W.Y;have Zy:m.Y<q.Y:=Q.n;refine ax e ?_;have⟨Xz,Xb⟩:=aO (fun Yr a=>q.Y<=a/\¬(fun _=>False) a/\ak Yr≠some a:Si->Sy->Prop);refine aZ.w (fun X h A=>∃(i:Sy) (y:Si) (WG:Sg Si),X=o.length-i/\i<=o.length/\ao A 6 y (k8 s (o.take i)).length WG/\aU cE 6 (Xz y) A (k8 s (o.take i)) WG/\ay q.Y y/\ao A 1 T WC.length (aM WC)/\ae A K.Y [I r,I WB,X2,X3,X4]/\ae A B.Y bX/\ae A m.Y [I r,I 0,T,av,y]/\ad m.Y q A/\h.e=90/\h.N 1= .map (some Xf)/\h.N 2=ab K.Y 0 6/\h.N 4=ab B.Y 0 6/\h.N 8=ab m.Y 0 6/\h.N 9=I (i:Sy))
   (fun X h A=>X= .bb 3/\∃(y:Si) (WG:Sg Si),ao A 6 y (k8 s o).length WG/\aU cE 6 (Xz y) A (k8 s o) WG/\ay q.Y y/\ao A 1 T WC.length (aM WC)/\ae A B.Y bX/\ae A m.Y [I r,I 0,T,av,y]/\ad m.Y q A/\h.e=90/\h.N 4=ab B.Y 0 6/\h.N 8=ab m.Y 0 6)
   ⟨0,av,[],rfl,Z,.al,by rw[SC];exact aU.al,ay.al _,Yb,WW,WX,Q,ad.p _ _,V e,V v,V M,V w,aa,aa⟩ ?_ ?_
  ·clear e v M w YE h YH WI Q R WO Xa Yb WW WX YF Ya WQ S;rintro Zz Ys X h A ⟨i,y,WG,rfl,ZA,E,Wy,z,XW,WY,WK,Wz,F,e,v,M,w,WZ,XX⟩;have Yt:=F.Y;have Xp:=W.a F;have Xq:=WD.d Xp;have Xc:=Zn.C Xq;have Xr:=WY.v eh 4 6 X4;by_cases G:i<o.length;rotate_left
   ·obtain rfl:i=o.length:=Z;rw[SE] at Wy E;refine ch e M XX @bJ Xr (Xc.g Sk) (Z:¬((o.length:Sy):Sp)<((o.length:Sy):Sp)) ?_;exact Ys _ _ _ ⟨rfl,y,WG,E,Wy,z,XW,WK,Wz,F,V e,V w,V WZ⟩
   have zac:=Kp s o i;have Xs:=Xc.r (k:= .i64) (x:=(i:Sp)) Sk bx Z Z;rw[Sm] at Xs;have⟨zad,ZH,Y2,ZI⟩:=Zp.H i G;have zae:=Y2.aG;have⟨ZJ,ZK⟩:=kn ZH;have⟨Y1,ZL⟩:=kS Xc G;have Y3:=Xc.hC bV aL G (j:=1) Z;rw[ZK] at Y3;refine jG e v M XX @bJ Xr (Xc.g Sk) (SI (Z:(i:Sp)<(o.length:Sp))) Xs ZL Y3 ((YN o[i].2 (ag (O.fs (k:=r) (n:=WB) (b:=WC) (l:=L) (d:=o) (Sj G))) Xg A _ (Yl.C Xp) (Y2.C Xq) (Zr _ (Sj G))).b ?_);rintro _ X9 ⟨WR,rfl,WS,Y4⟩;have ZE:=Y4.Y;have WA:=WS.aG;refine aR e @b8 @cy (aK fun YA YB ZM Xu=> ?_);refine aq e WN (bh aL ai YB rfl rfl WA WS.K fun YI XY zaf ZN=> ?_);have XY:ae YI X9.Y WR:=XY;have YJ:=ZM.a ⟨Z,fun a g=>ZN a Z⟩;have WL:=Y4.d YJ;have zag:=YJ.Y;have YK:=WS.C YJ;have Y5:aD Sh YI 3 (ab X9.Y 0 6)=some (I (cB s o[i].2).a9):=by
    have:=XY.B aB (a:=0) (c:=6) (by rw[WA]) Z;rw[this,YK.Kn]
   have Y6:=E.C WL;have Y7:=Wy.C bY WL;have Y8:=XW.C WL;have Yd:=WY.C WL;have Y9:=WK.C WL;have Ye:=Wz.C WL;have Xd:=Ko s G;by_cases Yf:(cB s o[i].2).a9=0
   ·rw[SJ Yf] at Xd;refine bp e XX @a6 Y5 Yf ?_;exact aH (o.length-(i+1)) Z ⟨i+1,y,WG,rfl,Z,by rw[Xd];exact Y6,by rw[Xd];exact Y7,z,Y8,Yd,Y9,Ye,F.a (WL.q (by omega)),V e,V v,V M,V w,V WZ,aa⟩
   rw[Sw Yf] at Xd;have⟨W0,XZ⟩:=aO (SU ⟨(o[i].1).toArray⟩::WR);have Yg:W0.length=6:=by rw[XZ];simp[WA]
   have ZO:bn (.agg W0.toArray) (.agg W0.toArray)=true:=by
    have:=WS.m;rw[XZ]
    match WR,WA,this with
    |[zah,WC,zai,o,f],_,this=>
     simp[bn,dF] at this|-
     exact⟨by simp[b9],this⟩
   have Za:=p0 o[i].1 WA;rw[<-XZ] at Za;refine aW e @a6 Y5 Yf (LB.T 0 1 fun YS WQ S _ H YT=> ?_);have ZP:=(Yd.C H).v eh 4 6 X4;have ZQ:=(Ye.C H).v eh 4 6 y;have Zb:=Xc.C WL;have Yh:=Zb.C H;have Zc:=Yh.r (k:= .i64) (x:=(i:Sp)) Sk bx Z Z;rw[Sm] at Zc;have⟨ZR,zaj⟩:=kS Yh G;have WE:=Yh.fE fH G (j:=0) Z;rw[Nat.add_zero,ZJ] at WE;simp(disch:=omega)only[aI,fi,dy,bC,Sq,Sr,↓Sn,e,M,WZ,XX,bJ,(LA.D S Yd.n),(LA.D S Ye.n),(LA.D S XY.n),ZP,ZQ,Yh.m,E.m,Zc,ZR,WE,fT,LA.g0 Zb S G,ah.L (XY.C H) WA,WS.m,Za,ZO,gC (a:=W0.toArray) Sk bx eD hE rfl Yg ai];refine LB.fD (a:=YI.Y) Yg Z (Sf _) ?_;intro ZB X8 Yw ZC Yx YV YW;have D:=H.a Yx;have ZD:=D.Y;have W6:cE (Xz y) X8 W0 (o[i].1,cB s o[i].2):=by
    refine⟨WR,XZ,(YK.C D).b (fun a g=> ?_),ZI⟩;rw[Xb];exact⟨Z,fun t=>t,fun f=>ag (E.z _ f)⟩
   refine ax e (LB.jE Sk Sk (.inl ⟨_,rfl⟩) bx nm eD rfl (Y6.C D) Yw.c.X Yg ai (show W0.all aN=true by rw[XZ,So,YK.K];rfl) Z Z (a:=q.Y) z Z (fun t=>SD rfl t) (fun a g=>ag (WQ a g)) fun P Zd YL Ze W1 Yz=> ?_);have zak:=W1.Y;have Zf:=Y7.C bY D;rw[Xb] at Zf W6;have Xt:=Zf.dO bY Yg W6 W1 Yz;rw[show(fun a=>q.Y<=a/\¬(fun _=>False) a/\ak P≠some a)=Xz P by rw[Xb]] at Xt;have W8:∀a,ak y=some a->q.Y<=a:=z
   refine aR e WZ @bJ (LB.gV mC ai ((Ye.C D).j W1 ((fun f=>ag (z _ f)):ak y≠some m.Y)) (b:=4) (c:=6) rfl (a:=[P]) YL.c.gA rfl aA (by simp[YL.c.aN]) (fun t=>SD rfl t) fun Zg ZS X0 Xe=> ?_);have ZT:∀a,Xz P a->ak (bI m.Y)≠some a:=fun a g f=>by
    have f:some m.Y=some a:=f;injection f with f;rw[Xb] at g;have:=g.1;omega
   refine aq e XX ?_;refine aH (o.length-(i+1)) Z ⟨i+1,P,WG++W0,rfl,Z,?_,?_,Ze,((Y8.C D).j W1 (fun a g f=>bq ((Yc a g).2) (W8 _ f)):ao Zd 1 T WC.length (aM WC)).f X0 Xe (fun f=>ag ((Yc _ f).1)),((Yd.C D).j W1 (fun f=>ag (W8 _ f))).f X0 Xe Z,((Y9.C D).j W1 (fun f=>ag (W8 _ f))).f X0 Xe Z,(ZS:ae Zg m.Y [I r,I 0,T,av,P]),?_,V e,V v,V M,V w,by simp only[cx,↓Sn,Sr,WZ],by simp only[cx,↓Sn];rfl⟩
   ·rw[Xd,Sv,SN];exact YL.f X0 Xe ((fun f=>ag (Ze _ f)):ak P≠some m.Y)
   ·rw[Xd];exact Xt.j bY (aF.f X0 Xe:aF (bI m.Y) Zd Zg) ZT
   exact(((F.a (WL.q (by omega))).a (D.q (by omega))).a ((W1.C z (by omega)).q (by omega))).a ⟨by omega,fun a g=>Xe a (by omega)⟩
  clear e v M w YE h YH WI Q R WO Xa Yb WW WX YF Ya WQ S;rintro X h A ⟨rfl,y,WG,E,Wy,z,XW,WK,Wz,F,e,w,WZ⟩;have Yt:=F.Y;refine aW e w WZ (ah.L Wz rfl) ?_;refine bh aL ai WK rfl rfl rfl (by simp only[So,SM,(XW.c.aN),(E.c.aN)];rfl) ?_;intro W5 YC W9 WT;refine ax e ?_;refine Xk _ _ [I r,I 0,T,av,y] _ (V e) (V w) (YC:ae W5 B.Y [I r,I 0,T,av,y]) rfl ?_ (((WD.d W).a (F.q (by omega))).a ⟨Z,fun a g=>WT a Z⟩);refine aE.lZ (XW.f W9 WT (fun f=>ag ((Yc _ f).1))).c .al (E.c.f W9 WT (fun f=>ag (z _ f))) (bA.gE (fun a g=>ag ((Yc _ g).1))) (bA.Q (ay.al _)) (bA.gE (fun a g=>ag (z _ g))) aU.al ((Wy.j bY (aF.f W9 WT:aF (bI B.Y) A W5) (fun a g f=> ?_)).b bY (fun a g=>by rw[Xb] at g;have:=g.1;omega));have f:some B.Y=some a:=f;injection f with f;rw[Xb] at g;have:=g.1;omega
 rw[Kt s Xm X5 Xw];have Xy:¬r=7:=fun t=>Xw (.inl t)
 have YD:¬r=8:=fun t=>Xw (.inr t)
 refine cX e WN @a6 Xj Xm X5 Xy YD (ah.L WU (Xh.aG)) ((sD _ _ (Sf _) Xg m _ (Xh.C WD) Zk).b ?_);rintro _ Yo ⟨WH,rfl,WV,U⟩;have Xn:=WV.aG;refine ax e (bh aL ai (Xi.C U) rfl rfl Xn WV.K fun Yp WI W2 R=> ?_);refine ax e ?_;exact Xk _ _ WH _ (V e) aa WI Xn (WV.f W2 R Z) ((WD.d U).a ⟨Z,fun a g=>R a Z⟩)
end Go.Proofs.YtgpmffbleaphkaaGreat
namespace Go.Cl
theorem az.Ib {s:J}{z:Sy}{v:Si}{n:Sy}{l:Sg Si}(h:az s z v n l)(a b:Sy):ak (cU z v a b)=ak v:=by
 cases h<;>rfl
def r0 (l:Sg Sp)(T:Sg (Sp×Si)):Prop:=∀n,eF n T=if n∈l then some (I 1) else none
theorem r0.jA:r0 [] []:=fun n=>by simp[eF]
theorem r0.hB {l:Sg Sp}{T:Sg (Sp×Si)}(h:r0 l T)(n:Sp):r0 (l++[n]) (kU n (I 1) T):=by
 intro m;rw[sJ];by_cases e:m=n
 ·rw[SJ e,SJ (by rw[e];exact List.mem_append_right _ (SZ.2 rfl))]
 rw[Sw e,h m];by_cases a:m∈l
 ·rw[SJ a,SJ (List.mem_append_left _ a)]
 rw[Sw a,Sw (fun q=>(List.mem_append.1 q).elim a (fun q=>e (SZ.1 q)))]
theorem az.abA {s:J}{v:Si}{n:Sp}{M:Sg Sp}(h:az s 1 v (M.length+1) (df (n::M))):az s 1 (cU 1 v 1 (M.length+1)) M.length (df M):=by
 have:=h.nP (a:=1) (b:=M.length+1) Z (Sf _);rw[Nat.add_sub_cancel,SY,SY] at this;have e:((df (n::M)).drop 1).take M.length=df M:=by
  show(df M).take M.length=df M;rw[Sz (by rw[p5];exact Sf _)]
 rw[e] at this;exact this
end Go.Cl
namespace Go.Proofs.YtgpmffbleaphkaaGreat
open Go.Cl Go.Lib
theorem abB (WX:Sy->Prop)(G:J)(c:cz)(H:Si)(K:Sg Si)(L:Si)(WY:Sg Si)(WJ:c2 WX G H K L WY c)(WK:fv c)(WL:Sy)(v:Sg Sp)(r:c5 c.aj WL (bG c.a7) [] v)(Yj:WL<=10000000):
  Runs Sh aw 41 [.agg (bk c H K L).toArray] G (Kd G v):=by
 have WM:=WJ.a7.aG;have Xk:=r.hR.2;rw[SH,SV] at Xk;have Xl:=r.rU;refine Runs.ey 50 Tryz.func41 rfl fun j a WZ=> ?_
 refine aq a WZ (aK fun h Xm WA Yk=> ?_);have Yl:=WA.Y;refine aq a (c9 (D:=c) (mv:=H) (iv:=L) WM) ?_;have⟨A,Xn,Xo,WB,Ym⟩:=yl h;have W0:=(Xm:ae h G.Y (bk c H K L)).C WB;have Yn:=WB.Y;rw[Xn];refine aR a @lx (lz W0 WM) ((GZ _ c.a7 (Sf _) WX A K (WJ.a7.C (WA.d WB)) WK.a7 Z).b ?_);rintro f Xp ⟨o,W1,s⟩;have W2:=s.Y;refine ax a ?_;refine aZ.w (fun z j t=>∃(d l:Sg Sp) (f g:Si) (Q:Sg (Sp×Si)),c5 c.aj z d l v/\z<=WL/\fu t h.Y Q/\r0 l Q/\ao t 1 g l.length (df l)/\ay A.Y g/\az t 1 f d.length (df d)/\(∀i,ak f=some i->A.Y<=i/\ak g≠some i)/\ae t G.Y (bk c H K L)/\ad h.Y h t/\A.Y<=t.Y/\j.e=50/\j.N 1=ab G.Y 0 10/\j.N 3=g/\j.N 4= .map (some h.Y)/\j.N 5=f)
  (fun z j t=>z= .bb 0/\∃g:Si,ao t 1 g v.length (df v)/\ay A.Y g/\ad h.Y h t/\j.e=50/\j.N 3=g)
  ⟨bG c.a7,[],f,av,[],r,Sf _,Xo.C s,r0.jA,.al,ay.al _,o.c,fun i m=>⟨W1 i m,fun e=>by cases e⟩,W0.C s,WB.d s,W2,V a,aa,aa,aa,aa⟩ ?_ ?_
 ·clear a WZ j o W1 s W2 Xp f Xl;rintro Yo Xq z j t ⟨d,l,f,g,Q,r,Yp,Xr,WC,R,p,o,Xs,W3,S,Yq,a,u,M,T,W4⟩;have Xt:=r.rU;cases d with
  |nil=>
   have e:=r.J5 (c5.l1 l);subst e;refine aW a W4 (o.g Se) (show¬(0:Sp)<((([]:Sg Sp).length:Sy):Sp) by simp) ?_;exact Xq _ _ _ ⟨rfl,g,R,p,S,V a,V M⟩
  |cons n d=>
  rw[St] at o Xt;have Xu:(0:Sp)<((d.length+1:Sy):Sp):=Z;have Xv:=o.cd Se (a:=t);have WN:=o.r (k:= .i64) (x:=0) Se aQ Z Z;have WN:eM Sh 47 f (I 0)=some (bM 1 f 0):=WN;have WO:=o.P aB (k:=0) Z;have WO:aD Sh t 3 (bM 1 f 0)=some (I n):=WO;have WD:=o.oJ Se aQ (k:= .i64) (x:=1) Z Z;have WD:fN Sh t 47 f (some (I 1)) none none=some (cU 1 f 1 (d.length+1)):=WD;have W5:=o.abA;have U:∀i,ak (cU 1 f 1 (d.length+1))=some i->A.Y<=i/\ak g≠some i:=fun i m=>Xs i (by rw[<-o.Ib 1 (d.length+1)];exact m)
  generalize cU 1 f 1 (d.length+1)=W6 at WD W5 U;have Xw:=WJ.fF.C (WA.d S);refine cX a u W4 Xv (SI Xu) WN WO WD (dV W3 WM) ((Hv _ t c H K L WY Xw WK n).b ?_);rintro _ Xx ⟨W7,rfl,WQ,W8⟩;have Yr:=W8.Y;have W9:=WQ.aG;have Xy:bX.length+1=6:=rfl;refine bp a @oY @oZ @b8 @cy (aK fun Ys Xz Xa Yt=> ?_);refine aq a Xy (bh aL ai Xz rfl rfl W9 WQ.K fun WR XW Yu XX=> ?_);have Yv:=Xa.Y;have Xb:=Xa.a ⟨Z,fun WE WS=>XX WE Z⟩;have O:=W8.d Xb;have Yw:=O.Y;have WG:=Xr.C O;have WT:=R.C O;have WU:=W5.C O;have WV:=W3.C O;have s:ad h.Y h WR:=S.d O;have B:=WG.N nB nA gj rW n;rw[WC n] at B;by_cases E:(cC c.aj n).2=false
  ·obtain⟨b,rfl,F⟩:∃b,z=b+1/\c5 c.aj b d l v:=by
    cases r with
    |e3 b _ _ _ _ q w=>exact⟨b,rfl,w⟩
    |jR b _ _ _ _ u W w=>rw[E] at u;cases u
   rw[E];refine c0 a ?_;exact aH b Z ⟨d,l,W6,g,Q,F,Z,WG,WC,WT,p,WU,U,WV,s,Z,V a,V u,V M,V T,aa⟩
  have E:(cC c.aj n).2=true:=by
   cases Xc:(cC c.aj n).2 with
   |true=>rfl
   |false=>exact SD Xc E
  rw[E];by_cases WH:n∈l
  ·obtain⟨b,rfl,F⟩:∃b,z=b+1/\c5 c.aj b d l v:=by
    cases r with
    |e3 b _ _ _ _ q w=>exact⟨b,rfl,w⟩
    |jR b _ _ _ _ u W w=>exact SD WH W
   rw[SJ WH] at B;simp only[SP] at B;refine fR a T B (SI (show(1:Sp)>0 by decide)) ?_;exact aH b Z ⟨d,l,W6,g,Q,F,Z,WG,WC,WT,p,WU,U,WV,s,Z,V a,V u,V M,V T,aa⟩
  obtain⟨b,rfl,F⟩:∃b,z=b+1/\c5 c.aj b (bG (cC c.aj n).1++d) (l++[n]) v:=by
   cases r with
   |e3 b _ _ _ _ q w=>
    rcases q with q|q
    ·rw[E] at q;cases q
    exact SD q WH
   |jR b _ _ _ _ u W w=>exact⟨b,rfl,w⟩
  rw[Sw WH] at B;simp only[SR] at B;have XY:=F.hR.1;rw[Sv,SN] at XY;have XZ:=F.rU;rw[Sv] at XZ;refine fR a T B (show¬(0:Sp)>0 by decide) (Ha nB nA WG n (I 1) fun X0 X1 X P=> ?_);have Xc:h.Y<A.Y:=Z;have Xd:=WT.f X P (fun e=>ag (p _ e));have X2:=WU.j (aF.f X P:aF (bI h.Y) WR X0) (fun i _ m e=>by
   have e:some h.Y=some i:=e;injection e with e;have:=(U i m).1;omega)
  have X3:=(WQ.C Xb).f X P (fun q=>ag q.2);have X4:=(XW:ae WR Xx.Y W7).f X P Z;simp(disch:=omega)only[aI,bC,Sq,Sr,↓Sn,a,M,gh Se aQ gj];refine du rfl ?_;intro Yx Yy X5 Yz y;have YA:=y.Y;refine ax a (hv Se Se (.inl ⟨_,rfl⟩) aQ nj gj rfl (Xd.C y) X5.c.X rfl ai rfl Z Z p Z fun X6 YB Xe X7 Xf Wy YC=> ?_);have YD:=Xf.Y;have X8:=((WV.f X P Z).C y).j Wy (fun e=>ag (p _ e));simp(disch:=omega)only[aI,bC,Sq,↓Sn,a,wC Se aQ gj rfl rfl];refine du rfl ?_;intro YE X9 Ya Yb WI;have YF:=WI.Y;have Yc:bd (cC c.aj n).1:=by
   obtain⟨e,Yd,-,W⟩:=rV E;rw[W];exact WK.aj e Yd
  refine aq a (ah.L (((X4.C y).j Wy (fun e=>qG ((Xd.z _ e)) (p _ e) (R.z _ e))).C WI) W9) ((GZ _ _ (Sf _) _ X9 W7 (((X3.C y).j Wy (fun WE WS e=>bq (p _ e) WS.2)).C WI) Yc Z).b ?_);rintro YG YH ⟨Ye,YI,WW⟩;have YJ:=WW.Y;refine ax a (hv Se Se (.inl ⟨_,rfl⟩) aQ nj gj rfl (Ya.C WW) Ye.c.X (by rw[p5,SY]) ai (p9 _) Z Z Yb Z fun YK YL Xg Yf Xh YM _=> ?_);have YN:=Xh.Y;rw[List.nil_append,SV] at Xg;have Xi:=(WI.d WW).a Xh;refine ax a (hv Se Se (.inl ⟨_,rfl⟩) aQ nj gj rfl Xg (((X2.C y).j Wy (fun i _ m e=>(U i m).2 e)).C Xi).X (by rw[p5,SY]) ai (p9 _) Z Z Yf Z fun Yg YO Yh Xj Yi _ _=> ?_);have Wz:=Xi.a Yi;have YP:=Wz.Y;refine ax a ?_;exact aH b Z ⟨bG (cC c.aj n).1++d,l++[n],Yg,X6,_,F,Z,((X1.C y).j Wy (fun e=>ag (p _ e))).C Wz,WC.hB n,by
   rw[Sv,p8];exact Xe.C Wz,X7,by
   rw[Sv,p8];exact Yh.c,fun i m=>⟨ag (Xj i m),fun e=>bq (Xj i m) (Xe.z i e)⟩,X8.C Wz,(((s.a ⟨Z,fun WE WS=>P WE (by omega)⟩).a (((y.q Z).a Xf).q (by omega))).a (Wz.q Z)),Z,V a,V u,aa,V T,aa⟩
 rintro z j t ⟨rfl,g,R,p,S,a,M⟩;refine bS a M @Tryz.results41 ?_;exact⟨R,fun i m=>ag (p i m),WA.d S⟩
end Go.Proofs.YtgpmffbleaphkaaGreat
namespace Go.Cl
def Kw (s:J)(D:cz)(v:Si)(a:J):Prop:=∃b c d e,v= .agg (bk D b c d).toArray/\c2 (fun j=>s.Y<=j) a b c d e D/\ad s.Y s a
theorem Kx {D:Sg (Sp×O)}{r:Sg Sp}{i:Sy}(h:i<r.length):(ga D r).take (i+1)=(ga D r).take i++[(((i+1:Sy):Sp),cB r (cC D r[i]).1)]:=by
 have a:i<(ga D r).length:=by rw[ox];exact h
 rw[SL,Sx a,yt h a];rfl
theorem ao.e4 {s:J}{z:Sy}{v:Si}{n:Sy}{l:Sg Si}(h:ao s z v n l):∃a b c,v= .slice a b c:=by cases h<;>exact⟨_,_,_,rfl⟩
theorem BB {a:Sg Si}(n:Sp)(h:bn (.agg a.toArray) (.agg a.toArray)=true):bn (.agg (I n::a).toArray) (.agg (I n::a).toArray)=true:=by
 have b:dF a a=true:=h;show dF (I n::a) (I n::a)=true;simp[dF,b9,b]
end Go.Cl
namespace Go.Proofs.YtgpmffbleaphkaaGreat
open Go.Cl Go.Lib
theorem Ky (b c:Sp)(d:Option Addr)(n e:Sy){a:Sg Si}(f:a.length=5):cP Sh 29 [(0,I b),(1,.slice d n e),(2,I c),(3,.agg a.toArray)]=some (.agg (I b:: .slice d n e::I c::(a++[av])).toArray):=by
 obtain⟨a,b,c,d,e,rfl⟩:=kV f;kernel_rfl
theorem yu {D:cz}{b d:Si}{a:Sg Si}(e:a.length=5)(c:Si):eB (bk D b a d) 8 [c]=bk D b a c:=by
 obtain⟨a,b,c,d,f,rfl⟩:=kV e;rfl
theorem Kz
  (Xo:Sy->Prop) (E:J) (d:cz) (z:Si) (F:Sg Si) (G:Si) (Xp:Sg Si) (W5:c2 Xo E z F G Xp d) (WN:fv d) (k:Sy) (r:Sg Sp) (W6:c5 d.aj k (bG d.a7) [] r) (Yk:k<=10000000):
  Runs Sh aw 34 [.agg (bk d z F G).toArray] E (Kw E (ew d r)):=by
 have p:=W5.a7.aG;have YS:=WN.eb;obtain⟨W7,-⟩:=k7 W6;have Yl:=W6.hR.2;rw[SH,SV] at Yl;refine Runs.dZ 54 Tryz.func34 rfl fun l g=> ?_
 refine ax g (aK fun A Ym Xq YT=> ?_);refine aW g (c9 (D:=d) (mv:=z) (iv:=G) p) @qD @qE (aK fun Yn Yo W8 YU=> ?_);have Xr:nE.length+1=10:=rfl;have YV:=Xq.Y;have YW:=W8.Y;have Xs:=Xq.d W8;have Xt:=(Ym:ae A E.Y (bk d z F G)).C W8;refine aR g Xr (dV Xt p) ((Kc (fun a=>Xo a/\a<E.Y) Yn d z F G Xp (W5.fF.C Xs) WN k r W6 Yk).b ?_);rintro _ f ⟨Wy,Yp,Yq,YX,Yr,Xu,rfl,WO,Ys,Yt,WQ⟩;have YY:=WQ.Y;have Xv:=Xs.d WQ;have W9:=Xt.C WQ;have Xw:=W5.fF.C Xv;have Xx:tw f Wy r:=⟨d,z,F,G,Yp,Yq,Xu,Yr,p,WO.cG,WO.ku,Yt⟩;refine ax g (LB.T 2 1 fun Yu Wz P _ q Yv=> ?_);have WR:=W9.C q;have H:=Xw.C q;have Xa:=LA.D P W9.n;refine cX g @Hg @xx @Hh Xa (Hm WR p) (xB WR p) H.eb.m @ez ((z3 (aS f 1) z d.eb H.eb Z).b ?_);rintro B Yw ⟨Xb,WS,WA⟩;have YZ:=WA.Y;have Xc:=WR.C WA;have Xd:=H.C WA;refine⟨fun _=>LA.ar.R Wz (WA.q Z),?_⟩;have Xy:=q.d WA;refine ch g @lx Xa (Hn Xc p) (lz Xc p) Xd.a7.m @ez ((Ku W7.kg Wy _ d.a7 (Sf _) _ Yw F (Xx.C Xy) Xd.a7 WN.a7).b ?_);rintro _ Yx ⟨m,rfl,Xe,WT⟩;have Y0:=WT.Y;have K:=Xe.aG;refine⟨fun _=>LA.ar.R Wz (WT.q Z),?_⟩;obtain⟨s,v,w,rfl⟩:=Xb.e4;have WU:=Xb.C WT;have WB:c2 (fun _=>True) Yx (.slice s v w) m (av) [] ⟨d.mF,d.eb,d.mG,cB r d.a7,[]⟩:=⟨WU.c,bA.gE (fun _ _=>trivial),Xe.b (fun _ _=>trivial),.al,bA.gE (fun _ _=>trivial),aU.al⟩;have WC:=WB.m;have WD:=nX WB;have WE:=nY WB;have Yy:cP Sh 29 [(0,I d.mF),(1,.slice s v w),(2,I d.mG),(3,.agg m.toArray)]=some (.agg (bk d (.slice s v w) m (av)).toArray):=Ky d.mF d.mG s v w K;have WC:bn (.agg (bk d (.slice s v w) m (av)).toArray) (.agg (bk d (.slice s v w) m (av)).toArray)=true:=WC;have WD:(bk d (.slice s v w) m (av)).length=9:=WD;have WE:(bk d (.slice s v w) m (av)).all aN=true:=WE;have⟨B,Yz⟩:=aO (.slice s v w:Si);refine bp g Yy WC @qD @qE ?_;rw[<-Yz] at WC WD WE WU WB WS Xb|-
 refine LB.j7 Z ?_;intro Y1 Xz XW WV;refine aq g Xr ?_;refine LB.eY mH ai Xz rfl rfl (by simpa using WD) WE (fun L=>SD rfl L) ?_;intro h WG XX Xf;have WG:ae h f.Y (bk d B m (av)):=WG;have Q:=((Xy.d WT).a ⟨Z,fun a b=>WV a Z⟩).a ⟨Z,fun a b=>Xf a Z⟩;have Y2:=Q.Y;have XY:=(WU.f XW WV (fun e=>ag (WS _ e))).f XX Xf (fun e=>ag (WS _ e));have YA:aE (fun a=>f.Y+1<=a/\a<h.Y) h m (cB r d.a7):=by
  have:=((Xe.f XW WV Z).f XX Xf Z).fF;exact this.b (fun a b=>⟨ag b.1,b.2⟩)
 have Xg:∀a,ak B=some a->f.Y+1<=a/\a<h.Y:=fun a b=>⟨ag (WS a b),XY.z a b⟩
 have XZ:=WO.C Q;have X0:=XZ.g4.c.cd Se (a:=h);refine aW g @vn (yp XZ.cG p) X0 ?_;have X1:=(Yo.C WQ).C Q;have X2:=W9.C Q;have Y3:f.Y<h.Y:=WG.n;have⟨R,WH⟩:=aO (fun YB a=>h.Y<=a/\¬(fun _=>False) a/\ak YB≠some a:Si->Sy->Prop);refine aZ.w (fun WI l t=>∃(i:Sy) (y:Si) (n:Sg Si),WI=r.length-i/\i<=r.length/\ao t 6 y i n/\aU g7 6 (R y) t ((ga d.aj r).take i) n/\ay h.Y y/\ae t E.Y (bk d z F G)/\ae t A.Y nE/\ae t f.Y (bk d B m y)/\aF (bI f.Y) h t/\l.e=54/\l.N 1=ab E.Y 0 10/\l.N 2=ab A.Y 0 10/\l.N 3=ab Wy 0 13/\l.N 4=ab f.Y 0 10/\l.N 24=Xu/\l.N 25=I (r.length:Sy)/\l.N 26=I (i:Sy))
  (fun WI l t=>WI= .bb 0/\∃(y:Si) (n:Sg Si),ao t 6 y r.length n/\aU g7 6 (R y) t (ga d.aj r) n/\ay h.Y y/\ae t A.Y nE/\ae t f.Y (bk d B m y)/\aF (bI f.Y) h t/\l.e=54/\l.N 2=ab A.Y 0 10/\l.N 4=ab f.Y 0 10)
  ⟨0,av,[],rfl,Z,.al,by rw[SC];exact aU.al,ay.al _,X2,X1,WG,aF.p _ _,V g⟩ ?_ ?_
 ·clear g l Xz WV WU WB WC WD WE WR H Xc Xd Xa X0 X2 X1 WG;rintro Y4 YC WI l t ⟨i,y,n,rfl,Y5,S,WJ,WK,Xh,WW,T,o,g⟩;have YD:=o.Y;have Xi:ad f.Y h t:=⟨o.Y,fun a b=>o.N a Z (fun e=>by
   have e:some f.Y=some a:=e;injection e with e;omega)⟩
  have Xj:=Q.a Xi;have WX:=WO.C Xj;have U:=Xw.C Xj;by_cases WY:i<r.length;rotate_left
  ·obtain rfl:i=r.length:=Z;rw[Sz (by rw[ox];exact Sf _)] at WJ;refine aq g (Z:¬((r.length:Sy):Sp)<((r.length:Sy):Sp)) ?_;exact YC _ _ _ ⟨rfl,y,n,S,WJ,WK,WW,T,o,V g⟩
  have X3:=WX.g4.c.r (k:= .i64) (x:=(i:Sp)) Se aQ Z Z;rw[Sm] at X3;have X4:=WX.g4.c.P aB WY;rw[qd WY] at X4;refine aW g (SI (Z:(i:Sp)<(r.length:Sp))) X3 X4 ?_;have⟨a,b,YE,YF⟩:=Ys.J8 (W7.kr _ (Sj WY));refine LB.T 1 1 fun Yu Wz P _ q Yv=> ?_
  have X5:=WX.C q;have H:=U.C q;have Xk:=X5.jS.N nB nA gj rW r[i];rw[YE] at Xk;simp only[SP] at Xk;have WZ:=H.aj;have X6:=WZ.r (k:= .i64) (x:=(a:Sp)) Ss eG Z Z;rw[Sm] at X6;have⟨Y6,YG⟩:=ly WZ b;obtain⟨Y7,Y8,X7,-⟩:=mI (H.dz.H a b);refine wP g @dA @rX ((LA.D P Xh.n)) ((LA.D P T.n)) ((LA.D P WX.cG.n)) (dB (Xh.C q) p) (dB (T.C q) K) (rY X5.cG p) Xk @uA @nW WZ.m S.m X6 YG ((WZ.hC bV aL b (j:=1) Z)) X7.m @fT (LA.g0 U.aj P b) ?_;refine(Ku W7.kg Wy _ d.aj[a].2 (Sf _) _ (aS t 1) _ (Xx.C (Xj.d q):tw (aS t 1) Wy r) X7 (WN.aj _ (Sj b))).b ?_;rintro _ Xl ⟨X8,rfl,W0,Xm⟩;have Y9:=Xm.Y;have X9:=W0.aG;refine⟨fun _=>LA.ar.R Wz (Xm.q Z),?_⟩;have⟨M,WL⟩:=aO (S8 .i64 ((i:Sp)+1)::X8);have W1:M.length=6:=by rw[WL];simp[X9]
  have Ya:=tu ((i:Sp)+1) X9;rw[<-WL] at Ya;simp(disch:=omega)only[g,aI,dy,bC,Sq,↓Sn,Ya,(show bn (.agg M.toArray) (.agg M.toArray)=true by rw[WL];exact BB _ W0.m),gC (a:=M.toArray) Ss eG nZ rr rfl W1 (by decide)];refine LB.fD (a:=t.Y) W1 Z (Sf _) ?_;intro Za Yb YH Zb YI YJ YK;have O:ad t.Y t Yb:=(q.d Xm).a YI;have Zc:=O.Y;have Yc:g7 (R y) Yb M (((i+1:Sy):Sp),cB r (cC d.aj r[i]).1):=by
   refine⟨X8,by rw[WL];rfl,?_⟩;rw[YF];refine(W0.j (u:=bI t.Y) (aF.f YJ YK) (fun a b e=> ?_)).b (fun a b=> ?_)
   ·have e:some t.Y=some a:=e;injection e with e;omega
   rw[WH];exact⟨Z,fun L=>L,fun e=>ag (S.z _ e)⟩
  refine ax g (LB.jE Ss Ss (.inl ⟨_,rfl⟩) eG Ai nZ rfl (S.C O) YH.c.X W1 ai (show M.all aN=true by rw[WL,So,W0.K];rfl) Z Z (a:=h.Y) WK Z (fun L=>SD rfl L) (fun a b=>ag (Wz a b)) fun W YL Xn Yd X YM=> ?_);have Zd:=X.Y;have Ye:=WJ.C hY O;rw[WH] at Ye Yc;have Yf:=Ye.dO hY W1 Yc X YM;rw[show(fun a=>h.Y<=a/\¬(fun _=>False) a/\ak W≠some a)=R W by rw[WH]] at Yf;have W2:∀a,ak y=some a->h.Y<=a:=WK
  refine aq g @dA (LB.gV uE ai ((T.C O).j X ((fun e=>ag (W2 _ e)):ak y≠some f.Y)) (b:=8) (c:=10) (by rw[c9 K]) (a:=[W]) Xn.c.gA rfl (by rw[c9 K];exact Sf _) (by simp[Xn.c.aN]) (fun L=>SD rfl L) fun YN Yg W3 WM=> ?_);rw[yu K] at Yg;have YO:∀a,R W a->ak (bI f.Y)≠some a:=fun a b e=>by
   have e:some f.Y=some a:=e;injection e with e;rw[WH] at b;have:=b.1;omega
  refine ax g ?_;refine aH (r.length-(i+1)) Z ⟨i+1,W,n++M,rfl,Z,Xn.f W3 WM ((fun e=>ag (Yd _ e)):ak W≠some f.Y),?_,Yd,((Xh.C O).j X (fun e=>ag (W2 _ e))).f W3 WM Z,((WW.C O).j X (fun e=>ag (W2 _ e))).f W3 WM Z,Yg,?_,V g⟩
  ·rw[Kx WY];exact Yf.j hY (aF.f W3 WM:aF (bI f.Y) YL YN) YO
  exact⟨Z,fun W4 YP Yh=>by rw[WM W4 (fun e=>Yh (by rw[e];rfl)),X.N W4 Z (fun e=>ag (W2 _ e)),O.N W4 Z,o.N W4 YP Yh]⟩
 rintro WI l t ⟨rfl,y,n,S,WJ,WK,WW,T,o,g⟩;have YD:=o.Y;have Xi:ad f.Y h t:=⟨o.Y,fun a b=>o.N a Z (fun e=>by
  have e:some f.Y=some a:=e;injection e with e;omega)⟩
 have Yi:∀a,f.Y+1<=a/\a<h.Y->ak (bI f.Y)≠some a:=fun a b e=>by
  have e:some f.Y=some a:=e;injection e with e;omega
 have U:c2 (fun a=>f.Y+1<=a/\(a<h.Y\/ak y=some a\/R y a)) t B m y n (ew d r):=
  ⟨(XY.j o (fun a b=>Yi a (Xg a b))).c,bA.gE (fun a b=>⟨(Xg a b).1,.inl (Xg a b).2⟩),(YA.j o Yi).b (fun a b=>⟨b.1,.inl b.2⟩),by
   show az t 6 y (ga d.aj r).length n;rw[ox];exact S.c,bA.gE (fun a b=>⟨ag (WK a b),.inr (.inl b)⟩),WJ.b hY (fun a b=>⟨by rw[WH] at b;have:=b.1;omega,.inr (.inr b)⟩)⟩
 refine aq g (dV T K) (bh mH ai WW rfl rfl (nX U) (nY U) fun Xl YQ YR Yj=> ?_);refine bS g (dV (YQ:ae Xl A.Y (bk d B m y)) K) @Tryz.results34 ?_;exact⟨B,m,y,n,rfl,(U.j (aF.f YR Yj:aF (bI A.Y) t Xl) (fun a b e=>by
  have e:some A.Y=some a:=e;injection e with e;have:=b.1;omega)).b (fun a b=>ag b.1),(Xv.d Q).a ⟨Z,fun a b=>by rw[Yj a Z,Xi.N a Z]⟩⟩
theorem yv
  (X9:Sy->Prop) (F:J) (b:cz) (M:Si) (W:Sg Si) (X:Si) (Xn:Sg Si) (Xo:c2 X9 F M W X Xn b) (WK:fv b) (k:Sy) (r:Sg Sp) (Xp:c5 b.aj k (bG b.a7) [] r) (YN:k<=10000000):
  Runs Sh aw 23 [.agg (bk b M W X).toArray] F (Kw F (ew b r)):=by
 have Wy:=Xo.a7.aG;have Zq:=WK.eb;obtain⟨Xq,-⟩:=k7 Xp;have YO:=Xp.hR.2;rw[SH,SV] at YO;refine Runs.ey 65 Tryz.func23 rfl fun f d Ya=> ?_
 refine aq d Ya (aK fun w YP Yb Zr=> ?_);refine aW d (c9 (D:=b) (mv:=M) (iv:=X) Wy) @qD @qE (aK fun YQ YR Xr Zs=> ?_);have Yc:nE.length+1=10:=rfl;have Zt:=Yb.Y;have Zu:=Xr.Y;have Yd:=Yb.d Xr;have Ye:=(YP:ae w F.Y (bk b M W X)).C Xr;refine aR d Yc (dV Ye Wy) ((abB (fun j=>X9 j/\j<F.Y) YQ b M W X Xn (Xo.fF.C Yd) WK k r Xp YN).b ?_);rintro Xs p ⟨Yf,Zv,W5⟩;have Zw:=W5.Y;refine ax d ?_;have⟨g,YS,Yg,O,Zx⟩:=yl p;rw[YS];have YT:=O.Y;refine aZ.w (fun z f t=>∃(i:Sy) (A:Sg (Sp×Si)),z=r.length-i/\i<=r.length/\fu t p.Y A/\iS (r.take i) A/\ad p.Y p t/\f.e=65/\f.N 1=ab F.Y 0 10/\f.N 2=ab w.Y 0 10/\f.N 3=Xs/\f.N 4= .map (some p.Y)/\f.N 5=I (i:Sy))
  (fun z f t=>z= .bb 0/\∃(A:Sg (Sp×Si)),fu t p.Y A/\iS r A/\ad p.Y p t/\f.e=65/\f.N 1=ab F.Y 0 10/\f.N 2=ab w.Y 0 10/\f.N 3=Xs/\f.N 4= .map (some p.Y))
  ⟨0,[],rfl,Z,Yg,iS.jA,O,V d,aa,aa,aa,aa,aa⟩ ?_ ?_
 ·clear d Ya f Yg;rintro YU Xt z f t ⟨i,A,rfl,Yh,W6,Xu,P,d,B,l,q,E,Xv⟩;have Yi:=P.Y;have G:=Yf.C P;by_cases Q:i<r.length;rotate_left
  ·obtain rfl:i=r.length:=Z;rw[SE] at Xu;refine bp d q Xv (G.c.g Se) (Z:¬((r.length:Sy):Sp)<((r.length:Sy):Sp)) ?_;exact Xt _ _ _ ⟨rfl,A,W6,Xu,P,V d,V B,V l,V q,V E⟩
  have WL:=G.c.r (k:= .i64) (x:=(i:Sp)) Se aQ Z Z;rw[Sm] at WL;have WM:=G.c.P aB Q;rw[qd Q] at WM;refine c1 d q E Xv (G.c.g Se) (SI (Z:(i:Sp)<(r.length:Sp))) WL WM (Ha nB nA W6 r[i] (I ((i:Sp)+1)) fun W7 YV Zy YW=> ?_);have Yj:=Xu.hB r[i];rw[List.length_take,Nat.min_eq_left Yh,<-Am Q] at Yj;refine aq d Xv ?_;exact aH (r.length-(i+1)) Z ⟨i+1,_,rfl,Z,YV,Yj,P.a ⟨Z,fun j a=>YW j Z⟩,V d,V B,V l,V q,V E,aa⟩
 rintro z f g ⟨rfl,A,Yk,Yl,O,d,B,l,q,E⟩;have YT:=O.Y;have Xw:=(Yd.d W5).d O;have Xx:=Ye.C (W5.d O);have Ym:=Xo.fF.C Xw;refine ax d (LB.T 2 1 fun YX Xy W8 _ R YY=> ?_);have W9:=Xx.C R;have Wz:=Ym.C R;have Xz:=LA.D W8 Xx.n;refine gY d B @Hg @xx @Hh Xz (Hm W9 Wy) (xB W9 Wy) Wz.eb.m @ez ((ri (aS g 1) M b.eb Wz.eb Z).b ?_);rintro S YZ ⟨XW,Xa,WN⟩;have Zz:=WN.Y;have XX:=W9.C WN;have XY:=Wz.C WN;refine⟨fun _=>LA.ar.R Xy (WN.q Z),?_⟩;have Yn:=R.d WN;refine gY d B E @lx Xz (Hn XX Wy) (lz XX Wy) XY.a7.m @ez @nW ((Kv Xq.kg p.Y A Yl _ b.a7 (Sf _) _ YZ W (Yk.C Yn) XY.a7 WK.a7).b ?_);rintro _ Y0 ⟨o,rfl,XZ,Xb⟩;have ZA:=Xb.Y;have WA:=XZ.aG;refine⟨fun _=>LA.ar.R Xy (Xb.q Z),?_⟩;obtain⟨H,K,L,rfl⟩:=XW.e4;have Xc:=XW.C Xb;have WO:c2 (fun _=>True) Y0 (.slice H K L) o (av) [] ⟨b.mF,b.eb,b.mG,cB r b.a7,[]⟩:=⟨Xc.c,bA.gE (fun _ _=>trivial),XZ.b (fun _ _=>trivial),.al,bA.gE (fun _ _=>trivial),aU.al⟩;have WQ:=WO.m;have WR:=nX WO;have WS:=nY WO;have Y1:cP Sh 29 [(0,I b.mF),(1,.slice H K L),(2,I b.mG),(3,.agg o.toArray)]=some (.agg (bk b (.slice H K L) o (av)).toArray):=Ky b.mF b.mG H K L WA;have WQ:bn (.agg (bk b (.slice H K L) o (av)).toArray) (.agg (bk b (.slice H K L) o (av)).toArray)=true:=WQ;have WR:(bk b (.slice H K L) o (av)).length=9:=WR;have WS:(bk b (.slice H K L) o (av)).all aN=true:=WS;have⟨S,Y2⟩:=aO (.slice H K L:Si);refine bp d Y1 WQ @qD @qE ?_;rw[<-Y2] at WQ WR WS Xc WO Xa XW|-
 refine LB.j7 Z ?_;intro ZB Yo Xd WD;refine aq d Yc ?_;refine LB.eY mH ai Yo rfl rfl (by simpa using WR) WS (fun m=>SD rfl m) ?_;intro h WT Yp X0;have WT:ae h g.Y (bk b S o (av)):=WT;have WU:=((Yn.d Xb).a ⟨Z,fun j a=>WD j Z⟩).a ⟨Z,fun j a=>X0 j Z⟩;have ZC:=WU.Y;have Yq:=(Xc.f Xd WD (fun e=>ag (Xa _ e))).f Yp X0 (fun e=>ag (Xa _ e));have Y3:aE (fun j=>g.Y+1<=j/\j<h.Y) h o (cB r b.a7):=by
  have:=((XZ.f Xd WD Z).f Yp X0 Z).fF;exact this.b (fun j a=>⟨ag a.1,a.2⟩)
 have X1:∀j,ak S=some j->g.Y+1<=j/\j<h.Y:=fun j a=>⟨ag (Xa j a),Yq.z j a⟩
 refine ax d ?_;have Yr:=(YR.C (W5.d O)).C WU;have Ys:=Xx.C WU;have ZD:g.Y<h.Y:=WT.n;have⟨WE,WV⟩:=aO (fun Y4 j=>h.Y<=j/\¬(fun _=>False) j/\ak Y4≠some j:Si->Sy->Prop);refine aZ.w (fun z f t=>∃(i:Sy) (y:Si) (s:Sg Si),z=r.length-i/\i<=r.length/\ao t 6 y i s/\aU g7 6 (WE y) t ((ga b.aj r).take i) s/\ay h.Y y/\ae t F.Y (bk b M W X)/\ae t w.Y nE/\ae t g.Y (bk b S o y)/\aF (bI g.Y) h t/\f.e=65/\f.N 1=ab F.Y 0 10/\f.N 2=ab w.Y 0 10/\f.N 3=Xs/\f.N 4= .map (some p.Y)/\f.N 6=ab g.Y 0 10/\f.N 7=I (i:Sy))
  (fun z f t=>z= .bb 2/\∃(y:Si) (s:Sg Si),ao t 6 y r.length s/\aU g7 6 (WE y) t (ga b.aj r) s/\ay h.Y y/\ae t w.Y nE/\ae t g.Y (bk b S o y)/\aF (bI g.Y) h t/\f.e=65/\f.N 2=ab w.Y 0 10/\f.N 6=ab g.Y 0 10)
  ⟨0,av,[],rfl,Z,.al,by rw[SC];exact aU.al,ay.al _,Ys,Yr,WT,aF.p _ _,V d,V B,V l,V q,V E,aa,aa⟩ ?_ ?_
 ·clear d B l q E f Yo WD Xc WO WQ WR WS W9 Wz XX XY Xz Ys Yr WT;rintro YU Xt z f t ⟨i,y,s,rfl,Yh,WG,WW,WX,X2,Xe,Xf,v,d,B,l,q,E,WH,WY⟩;have Yi:=v.Y;have P:ad g.Y h t:=⟨v.Y,fun j a=>v.N j Z (fun e=>by
   have e:some g.Y=some j:=e;injection e with e;omega)⟩
  have X3:=WU.a P;have G:=(Yf.C O).C X3;have W6:=Yk.C X3;by_cases Q:i<r.length;rotate_left
  ·obtain rfl:i=r.length:=Z;rw[Sz (by rw[ox];exact Sf _)] at WW;refine bp d q WY (G.c.g Se) (Z:¬((r.length:Sy):Sp)<((r.length:Sy):Sp)) ?_;exact Xt _ _ _ ⟨rfl,y,s,WG,WW,WX,Xe,Xf,v,V d,V l,V WH⟩
  refine bp d q WY (G.c.g Se) (SI (Z:(i:Sp)<(r.length:Sp))) (LB.T 0 1 fun YX Xy W8 _ R YY=> ?_);have Wz:=(Ym.C X3).C R;have X4:=G.C R;have WL:=X4.c.r (k:= .i64) (x:=(i:Sp)) Se aQ Z Z;rw[Sm] at WL;have WM:=X4.c.P aB Q;rw[qd Q] at WM;refine mA d B q WY (LA.D W8 X2.n) (dV (X2.C R) Wy) Wz.m X4.m WL WM (fun k=>LA.iG G.c W8 (k:=k)) @ez @lW ?_;obtain⟨WZ,Xg⟩:∃WZ,cC b.aj r[i]=(WZ,true):=⟨_,Prod.ext rfl (Xq.kr _ (Sj Q))⟩
  have Y5:bd WZ:=by
   obtain⟨e,Y6,-,l⟩:=rV (D:=b.aj) (n:=r[i]) (by rw[Xg]);rw[Xg] at l;have l:WZ=e.2:=l;rw[l];exact WK.aj e Y6
  have Yt:=Hv _ (aS t 1) b M W X Xn Wz WK r[i];rw[Xg] at Yt;refine Yt.b ?_;rintro _ W7 ⟨Y7,rfl,W0,Yu⟩;have ZE:=Yu.Y;have Yv:=W0.aG;refine⟨fun m=>m.elim,?_⟩;refine c1 d @oY @oZ (abm W0.m) W0.m ((fun Xh=>by cases Xh<;>rfl):∀Xh,bn (.bool Xh) (.bool Xh)=true) @b8 @cy ?_;refine LB.j7 Z ?_;intro ZF Y8 Y9 Yw;have Za:bX.length+1=6:=rfl;refine aq d Za ?_;refine LB.eY aL ai Y8 rfl rfl (by simpa using Yv) W0.K (fun m=>SD rfl m) ?_;intro T Xi Zb Yx;have Xi:ae T t.Y Y7:=Xi;have U:ad t.Y t T:=(R.d Yu).a ⟨Z,fun j a=>by rw[Yx j Z,Yw j Z]⟩;have ZG:=U.Y;have ZH:=Xw.Y;have Zc:=(W0.f Y9 Yw (fun m=>ag m.2)).f Zb Yx (fun m=>ag m.2);refine ax d ?_;have Zd:=WG.C U;have Ze:=WW.C hY U;have X5:=Xf.C U;refine LB.T 1 1 fun ZI Yy Yz _ W1 ZJ=> ?_
  have Zf:=LA.D Yz X5.n;have Zg:=LA.D Yz Xi.n;have YA:=Zc.C W1;refine mA d E WH WY @dA Zf Zg (dB (X5.C W1) WA) WG.m (ah.L (Xi.C W1) Yv) YA.m @nW @ez ((Kv Xq.kg p.Y A Yl _ WZ (Sf _) _ (aS T 1) _ ((W6.C U).C W1) YA Y5).b ?_);rintro _ ZK ⟨YB,rfl,Xj,X6⟩;have ZL:=X6.Y;have YC:=Xj.aG;refine⟨fun _=>LA.ar.R Yy (X6.q Z),?_⟩;have⟨WB,W2⟩:=aO (S8 .i64 ((i:Sp)+1)::YB);have Xk:WB.length=6:=by rw[W2];simp[YC]
  have YD:=tu ((i:Sp)+1) YC;rw[<-W2] at YD;simp(disch:=omega)only[aI,dy,bC,Sq,↓Sn,d,YD,(show bn (.agg WB.toArray) (.agg WB.toArray)=true by rw[W2];exact BB _ Xj.m),gC (a:=WB.toArray) Ss eG nZ rr rfl Xk (by decide)];refine LB.fD (a:=T.Y) Xk Z (Sf _) ?_;intro ZM YE Zh ZN Zi Xd WD;have WC:ad T.Y T YE:=(W1.d X6).a Zi;have ZO:=WC.Y;have YF:g7 (WE y) YE WB (((i+1:Sy):Sp),cB r (cC b.aj r[i]).1):=by
   refine⟨YB,by rw[W2];rfl,?_⟩;rw[Xg];refine(Xj.j (u:=bI T.Y) (aF.f Xd WD) (fun j a e=> ?_)).b (fun j a=> ?_)
   ·have e:some T.Y=some j:=e;injection e with e;omega
   rw[WV];exact⟨Z,fun m=>m,fun e=>ag (WG.z _ e)⟩
  refine ax d (LB.jE Ss Ss (.inl ⟨_,rfl⟩) eG Ai nZ rfl (Zd.C WC) Zh.c.X Xk ai (show WB.all aN=true by rw[W2,So,Xj.K];rfl) Z Z (a:=h.Y) WX Z (fun m=>SD rfl m) (fun j a=>ag (Yy j a)) fun WI Zj X7 YG WJ Zk=> ?_);have ZP:=WJ.Y;have YH:=Ze.C hY WC;rw[WV] at YH YF;have YI:=YH.dO hY Xk YF WJ Zk;rw[show(fun j=>h.Y<=j/\¬(fun _=>False) j/\ak WI≠some j)=WE WI by rw[WV]] at YI;have Xl:∀j,ak y=some j->h.Y<=j:=WX
  refine aR d WH @dA (LB.gV uE ai ((X5.C WC).j WJ ((fun e=>ag (Xl _ e)):ak y≠some g.Y)) (b:=8) (c:=10) (by rw[c9 WA]) (a:=[WI]) X7.c.gA rfl (by rw[c9 WA];exact Sf _) (by simp[X7.c.aN]) (fun m=>SD rfl m) fun Zl YJ Xm W3=> ?_);rw[yu WA] at YJ;have Zm:∀j,WE WI j->ak (bI g.Y)≠some j:=fun j a e=>by
   have e:some g.Y=some j:=e;injection e with e;rw[WV] at a;have:=a.1;omega
  refine aq d WY ?_;refine aH (r.length-(i+1)) Z ⟨i+1,WI,s++WB,rfl,Z,X7.f Xm W3 ((fun e=>ag (YG _ e)):ak WI≠some g.Y),?_,YG,(((X2.C U).C WC).j WJ (fun e=>ag (Xl _ e))).f Xm W3 Z,(((Xe.C U).C WC).j WJ (fun e=>ag (Xl _ e))).f Xm W3 Z,YJ,?_,V d,V B,V l,V q,V E,V WH,aa⟩
  ·rw[Kx Q];exact YI.j hY (aF.f Xm W3:aF (bI g.Y) Zj Zl) Zm
  exact⟨Z,fun W4 Zn YK=>by rw[W3 W4 (fun e=>YK (by rw[e];rfl)),WJ.N W4 Z (fun e=>ag (Xl _ e)),WC.N W4 Z,U.N W4 Z,v.N W4 Zn YK]⟩
 rintro z f t ⟨rfl,y,s,WG,WW,WX,Xe,Xf,v,d,l,WH⟩;have Yi:=v.Y;have P:ad g.Y h t:=⟨v.Y,fun j a=>v.N j Z (fun e=>by
  have e:some g.Y=some j:=e;injection e with e;omega)⟩
 have YL:∀j,g.Y+1<=j/\j<h.Y->ak (bI g.Y)≠some j:=fun j a e=>by
  have e:some g.Y=some j:=e;injection e with e;omega
 have X8:c2 (fun j=>g.Y+1<=j/\(j<h.Y\/ak y=some j\/WE y j)) t S o y s (ew b r):=
  ⟨(Yq.j v (fun j a=>YL j (X1 j a))).c,bA.gE (fun j a=>⟨(X1 j a).1,.inl (X1 j a).2⟩),(Y3.j v YL).b (fun j a=>⟨a.1,.inl a.2⟩),by
   show az t 6 y (ga b.aj r).length s;rw[ox];exact WG.c,bA.gE (fun j a=>⟨ag (WX j a),.inr (.inl a)⟩),WW.b hY (fun j a=>⟨by rw[WV] at a;have:=a.1;omega,.inr (.inr a)⟩)⟩
 refine aW d l WH (dV Xf WA) (bh mH ai Xe rfl rfl (nX X8) (nY X8) fun W7 Zo Zp YM=> ?_);refine b0 d l (dV (Zo:ae W7 w.Y (bk b S o y)) WA) @Tryz.results23 ?_;exact⟨S,o,y,s,rfl,(X8.j (aF.f Zp YM:aF (bI w.Y) t W7) (fun j a e=>by
  have e:some w.Y=some j:=e;injection e with e;have:=a.1;omega)).b (fun j a=>ag a.1),(Xw.d WU).a ⟨Z,fun j a=>by rw[YM j Z,P.N j Z]⟩⟩
end Go.Proofs.YtgpmffbleaphkaaGreat