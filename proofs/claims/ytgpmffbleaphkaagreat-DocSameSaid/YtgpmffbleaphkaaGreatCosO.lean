import Derived.Test.YtgpmffbleaphkaaGreatCosJ
open Go.Proofs.Tryz renaming underlying24->Se,prog->Sf,underlying23->Si,underlying47->So,underlying89->SB,results60->SH,underlying26->SL,results107->SN,results74->SR,results65->SU,results57->S6,results51->S7,results31->S9,results28->Ta
open List renaming length_append->Sg,getElem_mem->Sk,length_cons->Sm,length_nil->Sn,take_of_length_le->Sp,take_zero->Sq,getElem?_eq_getElem->Ss,take_length->Sx,length_map->SA,drop_succ_cons->SD,drop_zero->SF,take_add_one->SG,all_cons->SJ,append_nil->SP,flatMap_append->SV,getElem?_map->SW,mem_map->SX,flatMap_cons->SY,append_assoc->S1,getElem_map->S2,length_take->S3,map_append->S5
open Go renaming Value->Sh
open _root_ renaming List->Sj,eq_true->St,UInt8->Su,Nat->Sv,Int->SC,reduceIte->SI,if_neg->SK,if_pos->SM,decide_eq_false->SO,decide_eq_true->SQ,of_decide_eq_true->SZ,absurd->S8
open Int renaming toNat_natCast->Sl
open Nat renaming le_refl->Sr,reduceEqDiff->Sy,reduceLT->Sz,mul_one->SS,add_zero->S0,zero_le->S4,reduceAdd->Tb
open Go.Value renaming string->Sw,int->Tc
open Option renaming none->SE
set_option maxHeartbeats 8000000
set_option linter.unusedSimpArgs false
set_option linter.unusedVariables false
set_option maxRecDepth 100000
namespace Go.Cl
theorem aE.f {F:Sv->Prop}{s a:J}{b:Sj Sh}{o:O}{i:Sv}(h:aE F s b o)(c:a.Y=s.Y)(d:∀q,q≠i->a.i.N q=s.i.N q)(f:¬F i):aE F a b o:=
 h.j (u:= .pointer (some ⟨i,0,SE⟩)) (aF.f c d) (fun j g e=>by
  have e:some i=some j:=e;injection e with e;subst e;exact f g)
theorem aE.cI (F:Sv->Prop)(s:J)(k n:SC):aE F s [I k,I n,.slice SE 0 0,.slice SE 0 0,.slice SE 0 0] (.au k n [] [] []):=
 aE.lZ .al .al .al trivial trivial trivial aU.al aU.al
theorem bd.cI (k n:SC):bd (.au k n [] [] []):= .au aA aA aA (fun e h=>by cases h) (fun e h=>by cases h) (fun e h=>by cases h)
theorem bd.ck:bd O.ck:=bd.cI 0 0
def oX (d:Sj (Sj Su×O))(k:Sj Su):O:=match d.find? (fun y=>y.1==k) with
 |some e=>e.2
 |SE=>O.ck
def cV (o:O)(k:Sj Su):O:=if o.lu then oX o.j8 k else O.ck
theorem GO {d:Sj (Sj Su×O)}{k:Sj Su}{i:Sv}(a:i<d.length)(b:d[i].1=k)(c:∀j (h:j<i),d[j].1≠k):oX d k=d[i].2:=by
 unfold oX;have:d.find? (fun y=>y.1==k)=some d[i]:=by
  rw[List.find?_eq_some_iff_getElem];refine⟨by simpa using b,i,a,rfl,fun j a=> ?_⟩;have:=c j a
  simpa using this
 rw[this]
theorem GP {d:Sj (Sj Su×O)}{k:Sj Su}(a:∀j (h:j<d.length),d[j].1≠k):oX d k=O.ck:=by
 unfold oX;have:d.find? (fun y=>y.1==k)=none:=by
  rw[List.find?_eq_none];intro y b;obtain⟨j,c,rfl⟩:=List.mem_iff_getElem.1 b
  simpa using a j c
 rw[this]
def fU (K:Sj (Sj Su)):Sj (Sj Su×O):=K.map fun k=>(k,O.ck)
end Go.Cl
namespace Go.Proofs.YtgpmffbleaphkaaGreat
open Go.Cl Go.Lib
structure Aa (aV:bg):Prop where
 ek:aV.M 64=none
 acM:aV.M 89=none
 acN:aV.M 88=none
 dZ:aV.M 130=none
 ef:aV.M 131=none
 acO:aV.M 132=none
 np:aV.M 129=none
 z8:aV.M 133=none
 acP:aV.M 90=none
 acQ:aV.M 134=none
 acR:aV.M 157=none
 Gm:aV.M 173=some sv
 acS:aV.M 87=none
 GQ:aV.M 77=none
 acT:aV.M 58=none
 nN:aV.M 46=none
 N:aV.M 107=none
 acU:aV.M 75=none
theorem OI (L:Aa aw)(F:Sv->Prop)(s:J)(a:Sj Sh)(o:O)(c:aE F s a o)(d:bd o)(x:Sh)(l:Sj (Sj Su×O))(b:Sj Sh)(e:az s 6 x l.length b)(f:aU cE 6 F s l b)(g:l.length<=100000)(h:∀i∈l,bd i.2):
  Runs Sf aw 64 [.agg a.toArray,x] s (ei s (kb o l)):=
 OH F s a o c d x l b e f g h
theorem Ab (k n:SC):cP Sf 26 [(0,I k),(1,I n)]=some (.agg #[I k,I n,av,av,av]):=by
 unfold cP;rw[SL]
 rw[(show bK Sf 26=some (.agg #[I 0,I 0,av,av,av]) by kernel_rfl)];have b:∀a n,(Tc a n).cells= #[.int a n]:=fun _ _=>rfl
 simp[aQ,sC,dI,nU,mC,cp,hO,eT,jW,eP,di,b]
theorem w1 (k:SC):cP Sf 26 [(0,I k)]=some (.agg #[I k,I 0,av,av,av]):=by
 unfold cP;rw[SL]
 rw[(show bK Sf 26=some (.agg #[I 0,I 0,av,av,av]) by kernel_rfl)];have b:∀a n,(Tc a n).cells= #[.int a n]:=fun _ _=>rfl
 simp[aQ,sC,dI,nU,mC,cp,hO,eT,jW,eP,di,b]
theorem uy:cP Sf 26 []=some (.agg #[I 0,I 0,av,av,av]):=by kernel_rfl
theorem GR (k:SC){b:Sh}(c:b.cells.toList=[b]):cP Sf 26 [(0,I k),(2,b)]=some (.agg #[I k,I 0,b,av,av]):=by
 unfold cP;rw[SL]
 rw[(show bK Sf 26=some (.agg #[I 0,I 0,av,av,av]) by kernel_rfl)];have b:∀a n,(Tc a n).cells= #[.int a n]:=fun _ _=>rfl
 simp[aQ,sC,dI,nU,mC,cp,hO,eT,jW,eP,di,b,c]
theorem GS (a:Sj Su):cP Sf 42 [(0,.string ⟨a.toArray⟩)]=some (.agg (.string ⟨a.toArray⟩::bX).toArray):=by
 unfold cP;rw[Tryz.underlying42]
 rw[(show bK Sf 42=some (.agg #[.string ⟨#[]⟩,I 0,I 0,av,av,av]) by kernel_rfl)];have a:∀b,(Sw b).cells= #[.string b]:=fun _=>rfl
 simp[rj,aL,cp,hO,eT,jW,eP,di,a,bX]
theorem ei.u {s t a:J}{i:Sv}{F:Sv->Prop}{b:Sj Sh}{o:O}(h:aE F t b o)(c:∀j,F j->s.Y<=j/\j≠i)(f:a.Y=t.Y)(d:∀q,q≠i->a.i.N q=t.i.N q)(g:ad s.Y s t)(k:s.Y<=i):ei s o (.agg b.toArray) a:=
 ⟨b,rfl,(h.f f d (fun q=>(c i q).2 rfl)).b (fun j e=>(c j e).1),g.a ⟨Z,fun j e=>d j Z⟩⟩
theorem ah.L {s:J}{i:Sv}{a:Sj Sh}(h:ae s i a)(b:a.length=5):aD Sf s 26 (ab i 0 6)=some (.agg a.toArray):=ae.y bV (by rw[b];exact aL) h (by rw[b])
theorem Ac (s:J):Runs Sf aw 75 [] s (ei s O.ck):=by
 refine Runs.dY 2 Tryz.func75 rfl rfl rfl rfl ?_;intro f a _;refine aq @b8 @cy (aK fun b c d e=> ?_);have e:bX.length+1=6:=rfl;refine aR a e @uy (bh aL ai c rfl rfl rfl rfl fun g c e f=> ?_);refine bS a (ah.L c rfl) @Tryz.results75 ?_;exact ei.u (F:=fun _=>False) (aE.ck _ b) (fun j a=>a.elim) e f d (Sr _)
end Go.Proofs.YtgpmffbleaphkaaGreat
namespace Go.Cl
def uz (K:Sj (Sj Su)):Sj Sh:=K.map fun k=> .string ⟨k.toArray⟩
theorem GU {K:Sj (Sj Su)}{i:Sv}(h:i<K.length):(uz K).getD i undef= .string ⟨(K[i]).toArray⟩:=by
 unfold uz;rw[List.getD_eq_getElem?_getD,SW,Ss h];rfl
end Go.Cl
namespace Go.Proofs.YtgpmffbleaphkaaGreat
open Go.Cl Go.Lib
theorem OJ (K:Sv->Prop)(s:J)(L:Sj Sh)(o:O)(M:aE K s L o)(W0:bd o)(k:Sj Su):
  Runs Sf aw 107 [.agg L.toArray,.string ⟨k.toArray⟩] s (ei s (cV o k)):=by
 have WI:=M.aG;refine Runs.cS 25 Tryz.func107 rfl fun f a WJ p=> ?_
 refine aq a WJ (aK fun y W1 A Xy=> ?_);have W2:bX.length+1=6:=rfl;refine aW a WI @b8 @cy (aK fun q B WK Xz=> ?_);have b:=A.d WK;have WL:=W1.C WK;refine aR a (ah.L WL WI) W2 ((z9 K q L o (M.C b)).b ?_);rintro _ W3 ⟨rfl,n⟩;have W4:=WL.C n;have XW:=B.C n;have W5:=b.d n;cases WM:o.lu with
 |false=>
  have W6:cV o k=O.ck:=by unfold cV;rw[WM];rfl
  rw[W6];refine ax a ((Ac W3).b ?_);rintro _ W7 ⟨h,rfl,e,P⟩;have u:=e.aG;have v:=(n).a (P.q (n).Y);have WN:=A.Y;have W8:=b.Y;have W9:=(n).Y;refine ax a (bh aL ai (B.C v) rfl rfl u e.K fun Xa Q R S=> ?_);refine bS a (ah.L Q u) @SN ?_;exact ei.u e (fun j l=>⟨Z,Z⟩) R S (b.d v) WN
 |true=>
 cases o with
 |au T U W X d=>
 obtain⟨XX,XY,WO,XZ,X0,rfl,X1,X2,WQ,X3,X4,X5,X6,Xb⟩:=M.ea;cases W0 with
 |au X7 X8 X9 Ya Yb Xc=>
 have WR:cV (.au T U W X d) k=oX d k:=by unfold cV;rw[WM];rfl
 have Xd:=WQ.C W5;have Xe:=W4.v eh 4 6 WO;refine aW a @bJ Xe (Xd.g Se) ?_;refine aZ.w (fun z f t=>∃i:Sv,z=d.length-i/\i<=d.length/\(∀j (r:j<d.length),j<i->d[j].1≠k)/\ad q.Y q t/\f.e=25/\f.N 1= .string ⟨k.toArray⟩/\f.N 4=ab y.Y 0 6/\f.N 10=WO/\f.N 11=I (d.length:Sv)/\f.N 12=I (i:Sv))
  (fun z f t=>(z= .bF/\f.e=25/\f.N 4=ab y.Y 0 6/\∃h,ae t y.Y h/\aE (fun j=>q.Y<=j) t h (cV (.au T U W X d) k)/\ad s.Y s t)\/(z= .bb 0/\f.e=25/\f.N 4=ab y.Y 0 6/\cV (.au T U W X d) k=O.ck/\ad q.Y q t))
  ⟨0,rfl,Z,fun j r Yc=>Z,n,V a,V p,aa,aa,aa,aa⟩ ?_ ?_
 ·clear a WJ p f;rintro Yd WS z f t ⟨i,rfl,Ye,Wy,m,a,p,g,WT,Wz,WA⟩;by_cases D:i<d.length;rotate_left
  ·obtain rfl:i=d.length:=Z;refine aW a Wz WA (Z:¬((d.length:Sv):SC)<((d.length:Sv):SC)) ?_;exact WS _ _ _ (.inr ⟨rfl,V a,V g,by rw[WR];exact GP (fun j r=>Wy j r r),m⟩)
  have Xf:(i:SC)<(d.length:SC):=Z;have WU:=WQ.C (b.d m);have WV:=WU.r (k:= .i64) (x:=(i:SC)) Se bx Z Z;rw[Sl] at WV;have WB:=WU.dm gF bx D;have⟨WW,Xg,WC,Yf⟩:=Xb.H i D;have Xh:=WC.aG;rw[Xg] at WB;have⟨WD,w⟩:=aO (Sw ⟨(d[i].1).toArray⟩::WW);rw[<-w] at WB;have WE:WD.length=6:=by rw[w];simp[Xh]
  have Xi:WD.all aN=true:=by rw[w,SJ,WC.K];rfl
  have Xj:lp.length+1=7:=rfl;refine cX a WT Wz WA (St Xf) WV WB @eD @hE (aK fun Yg Xk Xl Yh=> ?_);refine aq a Xj (bh bx ai Xk rfl rfl WE Xi fun E F Yi Xm=> ?_);have F:ae E t.Y WD:=F;have Xn:=Xl.a ⟨Z,fun j l=>Xm j Z⟩;have WX:aD Sf E 9 (ab t.Y 0 7)=some (.string ⟨(d[i].1).toArray⟩):=by
   have:=F.B fH (a:=0) (c:=7) (by rw[WE]) Z;rw[this,w];rfl
  have Xo:aD Sf E 26 (ab t.Y 1 7)=some (.agg WW.toArray):=by
   have:=ae.ka bV aL F (a:=1) (c:=7) (by rw[WE]) Z;rw[this,w,SD,SF,Sp Z]
  have G:=m.d Xn;have Xp:=b.d G;by_cases H:d[i].1=k
  ·have Xq:=Xc _ (Sk D);refine c1 a p @jH @kp WX @ie Xo (SQ H) ((wY _ d[i].2 (Sr _) K E _ (WC.C Xp) Xq).b fun Yj Yk Xr=> ?_);obtain⟨h,rfl,WG,Xs⟩:=Xr.kT;have Xt:=WG.aG;have WY:=G.d Xs;have Yl:=G.Y;refine aq a g (bh aL ai (B.C WY) rfl rfl Xt WG.K fun Ym WH Xu WZ=> ?_);refine ax a ?_;have WN:=A.Y;refine WS _ _ _ (.inl ⟨rfl,V a,V g,h,WH,?_,(b.d WY).a ⟨Z,fun j l=>WZ j Z⟩⟩);rw[WR,GO D H (fun j l=>Wy j Z l)];exact(WG.f Xu WZ Z).b (fun j l=>Z)
  refine ch a p WA @jH WX @ie (SO H) ?_;refine aH (d.length-(i+1)) Z ⟨i+1,rfl,Z,fun j r l=> ?_,G,V a,V p,V g,V WT,V Wz,aa⟩;by_cases Xv:j=i
  ·subst Xv;exact H
  exact Wy j r Z
 rintro z f t (⟨rfl,a,g,h,WH,e,Xw⟩|⟨rfl,a,g,Xx,m⟩)
 ·refine b0 a g (ah.L WH e.aG) @SN ?_;have:=b.Y;exact⟨h,rfl,e.b (fun j l=>Z),Xw⟩
 rw[Xx];have Yn:=b.d m;refine ax a ((Ac t).b ?_);rintro _ W7 ⟨h,rfl,e,P⟩;have u:=e.aG;have v:=(m).a (P.q (m).Y);have W8:=b.Y;have W9:=(m).Y;refine aq a g (bh aL ai (B.C v) rfl rfl u e.K fun Xa Q R S=> ?_);refine b0 a g (ah.L Q u) @SN ?_;exact ei.u e (fun j l=>⟨Z,Z⟩) R S (b.d v) (A.Y)
end Go.Proofs.YtgpmffbleaphkaaGreat
namespace Go.Cl
theorem GV {K:Sj (Sj Su)}{i:Sv}(h:i<K.length):fU (K.take (i+1))=fU (K.take i)++[(K[i],O.ck)]:=by
 unfold fU;rw[SG,Ss h,S5];rfl
theorem Ad (K:Sj (Sj Su)):(fU K).length=K.length:=by unfold fU;rw[SA]
theorem OK {K:Sj (Sj Su)}:∀e∈fU K,bd e.2:=by
 intro e h;unfold fU at h;obtain⟨k,_,rfl⟩:=SX.1 h;exact bd.ck
end Go.Cl
namespace Go.Proofs.YtgpmffbleaphkaaGreat
open Go.Cl Go.Lib
theorem OL (L:Aa aw)(F:Sv->Prop)(s:J)(r:Sj Sh)(o:O)(A:aE F s r o)(W:bd o)(u:Sh)(K:Sj (Sj Su))(B:az s 1 u K.length (uz K))(X:K.length<=100000)(Wy:∀k∈K,k.length<=9223372036854775807):
  Runs Sf aw 46 [.agg r.toArray,u] s (ei s (kb o (fU K))):=by
 have D:=A.aG;refine Runs.ef 23 Tryz.func46 L.nN fun f a=> ?_
 refine ax a (aK fun E Wz G WN=> ?_);refine aW a D @b8 @cy (aK fun d WA H WO=> ?_);have e:=G.d H;refine aR a (rfl:bX.length+1=6) ((B.C e).g SB) ?_;refine aZ.w (fun z f t=>∃(i:Sv) (w:Sh) (b:Sj Sh),z=K.length-i/\i<=K.length/\ao t 6 w i b/\aU cE 6 (fun _=>False) t (fU (K.take i)) b/\ay d.Y w/\ad d.Y d t/\f.e=23/\f.N 2=ab s.Y 0 6/\f.N 4=ab E.Y 0 6/\f.N 5=w/\f.N 8=u/\f.N 9=I (K.length:Sv)/\f.N 10=I (i:Sv))
  (fun z f t=>z= .bb 0/\∃(w:Sh) (b:Sj Sh),ao t 6 w K.length b/\aU cE 6 (fun _=>False) t (fU K) b/\ad d.Y d t/\f.e=23/\f.N 2=ab s.Y 0 6/\f.N 4=ab E.Y 0 6/\f.N 5=w)
  ⟨0,av,[],rfl,Z,.al,by rw[Sq];exact aU.al,ay.al _,ad.p _ _,V a⟩ ?_ ?_
 ·clear a f;rintro WQ WB z f t ⟨i,w,b,rfl,WR,h,g,WC,c,a⟩;by_cases j:i<K.length;rotate_left
  ·obtain rfl:i=K.length:=Z;rw[Sx] at g;refine aq a (Z:¬((K.length:Sv):SC)<((K.length:Sv):SC)) ?_;exact WB _ _ _ ⟨rfl,w,b,h,g,c,V a⟩
  have M:=B.C (e.d c);have P:=M.r (k:= .i64) (x:=(i:SC)) SB rj Z Z;rw[Sl] at P;have Q:=M.P fH j;rw[GU j] at Q;have⟨l,m⟩:=aO (Sw ⟨(K[i]).toArray⟩::bX);have n:l.length=6:=by rw[m];rfl
  have R:=GS K[i];rw[<-m] at R;simp(disch:=omega)only[a,aI,bC,Sz,Sy,↓SI,St (Z:(i:SC)<(K.length:SC)),P,Q,R,gC (a:=l.toArray) Se bx eD hE rfl n (by decide)];refine du (by rw[n]) ?_;intro WS WT WD WU p;refine ax a (hv Se Se (.inl ⟨_,rfl⟩) bx nm eD rfl (h.C p) WD.c.X n ai (show l.all aN=true by rw[m];rfl) Z Z WC (bq c.Y p.Y) fun WE WG WH WI v WJ _=> ?_);refine ax a ?_;refine aH (K.length-(i+1)) Z ⟨i+1,WE,b++l,rfl,Z,WH,?_,WI,(c.d p).a v,V a⟩;rw[GV j];exact((g.C bY p).j bY WJ (fun S q=>q.elim)).hB n ⟨bX,m,aE.ck _ _,Wy _ (Sk j)⟩
 rintro z f t ⟨rfl,w,b,h,g,c,a⟩;refine aq a (ah.L ((Wz.C H).C c) D) ((OI L F t r o (A.C (e.d c)) W w (fU K) b (by rw[Ad];exact h.c) (g.b bY (fun S q=>q.elim)) (by rw[Ad];exact X) OK).b ?_);rintro _ WG ⟨WV,rfl,y,v⟩;have T:=y.aG;have U:=c.d v;have WW:=e.Y;have WX:=c.Y;refine ax a (bh aL ai (WA.C U) rfl rfl T y.K fun WY WK WL WM=> ?_);refine bS a (ah.L WK T) @Tryz.results46 ?_;exact ei.u y (fun S q=>⟨Z,Z⟩) WL WM (e.d U) (G.Y)
end Go.Proofs.YtgpmffbleaphkaaGreat
namespace Go.Cl
open Go.RowKit Go.ChangeShapes Go.WideShapes
theorem aX.OM {S:aC}{a b:Sj Sh}{d:Array Sh}(h:bo S a b)(c:d.toList=b):aX S (.agg a.toArray) (.agg d):=by
 subst c;exact .mq _ _ h.1 h.2
end Go.Cl
namespace Go.Proofs.YtgpmffbleaphkaaGreat
open Go.Cl Go.Lib Go.RowKit Go.ChangeShapes Go.WideShapes
variable {H:Type} {enc:TypeId×Sh->H} {W:World}
end Go.Proofs.YtgpmffbleaphkaaGreat
namespace Go.Cl
def eZ:O->Sj O
 | .au k _ _ l d=>if k=6 then l else if k=7\/k=8 then d.map (·.2) else []
theorem mE (k n:SC)(b:Sj Su)(l:Sj O)(d:Sj (Sj Su×O)):eZ (.au k n b l d)=if k=6 then l else if k=7\/k=8 then d.map (·.2) else []:=rfl
theorem sG {o x:O}(h:x∈eZ o):SizeOf.sizeOf x<SizeOf.sizeOf o:=by
 cases o with
 |au k n b l d=>
  have h:x∈(if k=6 then l else if k=7\/k=8 then d.map (·.2) else []):=h;by_cases a:k=6
  ·rw[SM a] at h;exact O.gD h
  rw[SK a] at h;by_cases a:k=7\/k=8
  ·rw[SM a] at h;obtain⟨e,b,rfl⟩:=SX.1 h;exact O.fs b
  rw[SK a] at h;cases h
def sH:Sv->O->Sj SC
 |0,_=>[]
 |m+1,o=>if o.a9=9 then [o.mB] else(eZ o).flatMap (sH m)
noncomputable def bG (o:O):Sj SC:=sH (SizeOf.sizeOf o) o
theorem Ae {a b:Type}{f g:a->Sj b}:∀{l:Sj a},(∀x∈l,f x=g x)->l.flatMap f=l.flatMap g
 |[],_=>rfl
 |x::l,h=>by
  rw[SY,SY,h x (List.mem_cons_self ..),Ae (fun y a=>h y (List.mem_cons_of_mem _ a))]
theorem O.g5 (o:O):0<SizeOf.sizeOf o:=by cases o;simp only[O.au.sizeOf_spec];omega
theorem GW:∀(m a:Sv) (o:O),SizeOf.sizeOf o<=m->SizeOf.sizeOf o<=a->sH m o=sH a o
 |0,_,o,h,_=>ag o.g5
 |_+1,0,o,_,h=>ag o.g5
 |m+1,b+1,o,h,a=>by
  unfold sH;split
  ·rfl
  exact Ae (fun x a=>GW m b x (ag (sG a)) (ag (sG a)))
theorem rn (o:O):bG o=if o.a9=9 then [o.mB] else(eZ o).flatMap bG:=by
 unfold bG;obtain⟨q,a⟩:∃b,SizeOf.sizeOf o=b+1:=⟨SizeOf.sizeOf o-1,ag o.g5⟩
 rw[a];show(if o.a9=9 then [o.mB] else(eZ o).flatMap (sH q))=_;split
 ·rfl
 exact Ae (fun x a=>GW q _ x (ag (sG a)) (Sr _))
theorem sI {k n:SC}{b:Sj Su}{l:Sj O}{d:Sj (Sj Su×O)}(h:k=9):bG (.au k n b l d)=[n]:=by
 rw[rn];exact SM h
theorem w2 {o:O}(h:o.a9≠9):bG o=(eZ o).flatMap bG:=by
 rw[rn,SK h]
theorem p4 {l:Sj O}{i:Sv}(h:i<l.length):(l.take (i+1)).flatMap bG=(l.take i).flatMap bG++bG l[i]:=by
 rw[SG,Ss h,SV];simp
theorem w3 (l:Sj O)(i:Sv):((l.take i).flatMap bG).length<=(l.flatMap bG).length:=by
 conv=>rhs;rw[<-List.take_append_drop i l,SV,Sg]
 omega
def df (l:Sj SC):Sj Sh:=l.map (.int .i64)
theorem p5 (l:Sj SC):(df l).length=l.length:=SA ..
theorem p8 (a b:Sj SC):df (a++b)=df a++df b:=S5 ..
theorem p9:∀l:Sj SC,(df l).all aN=true
 |[]=>rfl
 |_::l=>by show(true&&(df l).all aN)=true;rw[p9 l];rfl
end Go.Cl
namespace Go.Proofs.YtgpmffbleaphkaaGreat
open Go.Cl Go.Lib
def ON (s:J)(F:Sv->Prop)(o:O)(v:Sh)(a:J):Prop:=∃b,az a 5 v (eZ o).length b/\aU aE 5 F a (eZ o) b/\ad s.Y s a
theorem OO (F:Sv->Prop)(s:J)(X:Sj Sh)(u:O)(M:aE F s X u)(WO:bd u):
  Runs Sf aw 74 [.agg X.toArray] s (ON s (fun j=>F j/\j<s.Y) u):=by
 have Xd:=M.aG;cases u with
 |au g v y m d=>
 obtain⟨Xe,WQ,Wy,WR,Xf,rfl,Xg,WS,Wz,Xh,Xi,Xj,WT,WU⟩:=M.fF.ea;cases WO with
 |au Xk Xl Xm Xn Xo Xp=>
 refine Runs.ey 27 Tryz.func74 rfl fun f a WA=> ?_
 refine aq a WA (aK fun WB A n Xq=> ?_);have WC:=A.v aB 0 6 (I g);by_cases o:g=6
 ·refine wL a @Sm.{0} @Sn.{0} @a6 @c7 WC (A.o ft 3 6:aD Sf WB 23 (ab s.Y 3 6)=some WQ) (St o) @SR ?_;have e:eZ (.au g v y m d)=m:=by rw[mE,SM o]
  exact⟨WR,by rw[e];exact WS.C n,by rw[e];exact WT.C cm n,n⟩
 refine ch a @Sm.{0} @Sn.{0} @a6 WC o (ah.L A rfl) ((z9 F WB _ _ (M.C n)).b ?_);rintro _ p ⟨rfl,WD⟩;have h:=n.d WD;cases WE:(O.au g v y m d).lu with
 |false=>
  refine bO a @SR ?_;have e:eZ (.au g v y m d)=[]:=by
   rw[mE,SK o,SK];intro B;rcases B with B|B<;>simp[O.lu,O.a9,B] at WE
  exact⟨[],by rw[e];exact .al,by rw[e];exact aU.al,h⟩
 |true=>
 have e:eZ (.au g v y m d)=d.map (·.2):=by
  rw[mE,SK o,SM];rcases Bool.or_eq_true_iff.1 (WE:(decide (g=7)||decide (g=8))=true) with P|P
  ·exact .inl (SZ P)
  exact .inr (SZ P)
 have WV:=(A.C WD).v eh 4 6 Wy;refine aW a @bJ WV ((Wz.C h).g Se) ?_;refine aZ.w (fun z f t=>∃(i:Sv) (w:Sh) (b:Sj Sh),z=d.length-i/\i<=d.length/\ao t 5 w i b/\aU aE 5 (fun j=>F j/\j<s.Y) t ((d.map (·.2)).take i) b/\ay p.Y w/\ad p.Y p t/\f.e=27/\f.N 3=w/\f.N 14=Wy/\f.N 15=I (d.length:Sv)/\f.N 16=I (i:Sv))
  (fun z f t=>z= .bb 0/\∃(w:Sh) (b:Sj Sh),ao t 5 w d.length b/\aU aE 5 (fun j=>F j/\j<s.Y) t (d.map (·.2)) b/\ad p.Y p t/\f.e=27/\f.N 3=w)
  ⟨0,av,[],rfl,Z,.al,by rw[Sq];exact aU.al,ay.al _,ad.p _ _,V a,aa,aa,aa,aa⟩ ?_ ?_
 ·clear a WA f;rintro Xr WW z f t ⟨i,w,b,rfl,Xs,D,q,WG,l,a,E,WH,Q,R⟩;by_cases S:i<d.length;rotate_left
  ·obtain rfl:i=d.length:=Z;rw[Sp aA] at q;refine aW a Q R (Z:¬((d.length:Sv):SC)<((d.length:Sv):SC)) ?_;exact WW _ _ _ ⟨rfl,w,b,D,q,l,V a,V E⟩
  have WI:=Wz.C (h.d l);have WJ:=WI.r (k:= .i64) (x:=(i:SC)) Se bx Z Z;rw[Sl] at WJ;have T:=WI.dm gF bx S;have⟨G,WX,H,Xt⟩:=WU.H i S;have r:=H.aG;rw[WX] at T;have⟨U,K⟩:=aO (Sw ⟨(d[i].1).toArray⟩::G);rw[<-K] at T;have WK:U.length=6:=by rw[K];simp[r]
  have WY:U.all aN=true:=by rw[K,SJ,H.K];rfl
  have WZ:lp.length+1=7:=rfl;refine cX a WH Q R (St (Z:(i:SC)<(d.length:SC))) WJ T @eD @hE (aK fun Xu W0 W1 Xv=> ?_);refine aq a WZ (bh bx ai W0 rfl rfl WK WY fun WL W Xw W2=> ?_);have W:ae WL t.Y U:=W;have W3:=W1.a ⟨Z,fun j WM=>W2 j Z⟩;have W4:aD Sf WL 26 (ab t.Y 1 7)=some (.agg G.toArray):=by
   have:=ae.ka bV aL W (a:=1) (c:=7) (by rw[WK]) Z;rw[this,K,SD,SF,Sp Z]
  simp(disch:=omega)only[aI,bC,Sz,Sy,↓SI,a,E,kp,W4,gC (a:=G.toArray) Si aL b8 cy rfl r (by decide)];refine du (by rw[r]) ?_;intro Xx Xy W5 Xz W6;refine ax a ?_;have XW:=l.Y;have L:=W3.d W6;refine hv Si Si (.inl ⟨_,rfl⟩) aL pZ b8 rfl (D.C L) W5.c.X r ai H.K Z Z WG (ag L.Y) ?_;intro W7 XX W8 W9 Xa Xb _;refine aq a R ?_;have WN:=(l.d L).a Xa;refine aH (d.length-(i+1)) Z ⟨i+1,W7,b++G,rfl,Z,W8,?_,W9,WN,V a,aa,V WH,V Q,aa⟩;have Xc:(d.map (·.2)).take (i+1)=(d.map (·.2)).take i++[d[i].2]:=by rw[SG,SW,Ss S];rfl
  rw[Xc];exact((q.C cm L).j cm Xb (fun j WM e=>qG (WG _ e) WM.2 h.Y)).hB r (H.C (h.d WN))
 rintro z f t ⟨rfl,w,b,D,q,l,a,E⟩;refine bS a E @SR ?_;exact⟨b,by rw[e,SA];exact D.c,by rw[e];exact q,h.d l⟩
theorem OP {o:O}(h:bd o):(eZ o).length<=100000/\∀x∈eZ o,bd x:=by
 cases h with
 |au j b c m e f=>
  rename_i k n p l d;show(if k=6 then l else if k=7\/k=8 then d.map (·.2) else []).length<=100000/\∀x∈(if k=6 then l else if k=7\/k=8 then d.map (·.2) else []),bd x
  split
  ·exact⟨b,e⟩
  split
  ·refine⟨by rw[SA];exact c,fun x a=> ?_⟩;obtain⟨g,i,rfl⟩:=SX.1 a;exact f g i
  exact⟨aA,fun x a=>by cases a⟩
def GX (s:J)(o:O)(v:Sh)(a:J):Prop:=ao a 1 v (bG o).length (df (bG o))/\ay s.Y v/\ad s.Y s a
theorem GY:∀(h:Sv) (o:O),SizeOf.sizeOf o<=h->∀(F:Sv->Prop) (s:J) (l:Sj Sh),aE F s l o->bd o->(bG o).length<=10000000->
  Runs Sf aw 57 [.agg l.toArray] s (GX s o):=by
 intro h
 induction h with
 |zero=>intro o R;have:=o.g5;omega
 |succ h WG=>
 intro o W5 F s l D S WH;have W6:=D.aG;obtain⟨m,n,p,WI⟩:∃m n p:Sh,l=[I o.a9,I o.mB,m,n,p]:=by
  cases o with
  |au W7 W8 W9 Xa Xb=>obtain⟨m,n,p,Xc,Xd,R,-⟩:=D.ea;exact⟨m,n,p,R⟩
 subst WI;refine Runs.ey 25 Tryz.func57 rfl fun f a T=> ?_
 refine aq a T (aK fun U E q Xe=> ?_);have W:=E.v aB 0 6 (I o.a9);by_cases r:o.a9=9
 ·have u:bG o=[o.mB]:=by rw[rn,SM r]
  simp(disch:=omega)only[aI,bC,Sz,Sy,Tb,↓SI,a,Sm,Sn,a6,eE,W,(E.B lq (a:=1) (c:=6) rfl (by simp):aD Sf U 2 (ab s.Y 1 6)=some (I o.mB)),St r,gh So aQ gj];refine du rfl ?_;intro Xf b WJ WK G;refine bO a @S6 ?_;exact⟨by rw[u];exact WJ,fun j v=>bq (WK j v) q.Y,q.d G⟩
 have u:=w2 r;have⟨Xg,WL⟩:=OP S;refine ch a @Sm.{0} @Sn.{0} @a6 W r (ah.L E rfl) ((OO F U _ o (D.C q) S).b ?_);rintro WM b ⟨WN,X,WO,G⟩;have Wy:=q.d G;rw[u] at WH;refine aq a (X.g Si) ?_;refine aZ.w (fun z f t=>∃(i:Sv) (w:Sh),z=(eZ o).length-i/\i<=(eZ o).length/\ao t 1 w (((eZ o).take i).flatMap bG).length (df (((eZ o).take i).flatMap bG))/\ay b.Y w/\ad b.Y b t/\f.e=25/\f.N 3=w/\f.N 13=WM/\f.N 14=I ((eZ o).length:Sv)/\f.N 15=I (i:Sv))
  (fun z f t=>z= .bb 0/\∃(w:Sh),ao t 1 w (((eZ o)).flatMap bG).length (df (((eZ o)).flatMap bG))/\ay b.Y w/\ad b.Y b t/\f.e=25/\f.N 3=w)
  ⟨0,av,rfl,Z,by rw[Sq];exact .al,ay.al _,ad.p _ _,V a,aa,aa,aa,aa⟩ ?_ ?_
 ·clear a T f;rintro Xh WQ z f t ⟨i,w,rfl,Xi,g,y,d,a,A,Wz,H,K⟩;by_cases e:i<(eZ o).length;rotate_left
  ·obtain rfl:i=(eZ o).length:=Z;rw[Sx] at g;refine aW a H K (Z:¬(((eZ o).length:Sv):SC)<(((eZ o).length:Sv):SC)) ?_;exact WQ _ _ _ ⟨rfl,w,g,y,d,V a,V A⟩
  have WR:(i:SC)<((eZ o).length:SC):=Z;have WA:=X.C d;have WB:=WA.r (k:= .i64) (x:=(i:SC)) Si aL Z Z;rw[Sl] at WB;have WC:=WA.dm bV aL e;have B:=(WO.H i e).C d;have⟨L,WS⟩:=aO ((WN.drop (i*5)).take 5);rw[<-WS] at WC B;have WD:=B.aG;have WT:bX.length+1=6:=rfl;refine cX a Wz H K (St WR) WB WC @b8 @cy (aK fun Xj WU WV Xk=> ?_);refine aq a WT (bh aL ai WU rfl rfl WD B.K fun M P Xl WW=> ?_);have P:ae M t.Y L:=P;have WE:=WV.a ⟨Z,fun j v=>WW j Z⟩;have WX:aD Sf M 26 (ab t.Y 0 6)=some (.agg L.toArray):=ah.L P WD;have WY:=w3 (eZ o) (i+1);rw[p4 e,Sg] at WY;refine aR a A WX ((WG (eZ o)[i] (ag (sG (Sk e))) _ M L (B.C WE) (WL _ (Sk e)) Z).b ?_);rintro Xm Xn ⟨WZ,Xo,W0⟩;have Q:=WE.d W0;refine ax a (hv So So (.inl ⟨_,rfl⟩) aQ nj gj rfl (g.C Q) WZ.c.X (by rw[p5,SS]) ai (p9 _) Z Z y (bq d.Y Q.Y) fun W1 Xp W2 W3 W4 _ _=> ?_);refine aq a K ?_;exact aH ((eZ o).length-(i+1)) Z ⟨i+1,W1,rfl,Z,by rw[p4 e,Sg,p8];exact W2,W3,(d.d Q).a W4,V a,aa,V Wz,V H,aa⟩
 rintro z f t ⟨rfl,w,g,y,d,a,A⟩;refine bS a A @S6 ?_;exact⟨by rw[u];exact g,fun j v=>bq (y j v) Wy.Y,Wy.d d⟩
theorem GZ:∀(WH:Sv) (E:O),SizeOf.sizeOf E<=WH->∀(WX:Sv->Prop) (G:J) (WM:Sj Sh),aE WX G WM E->bd E->(bG E).length<=10000000->
  Runs Sf aw 60 [.agg WM.toArray] G (GX G E):=by
 intro WH
 induction WH with
 |zero=>intro E WI;have:=E.g5;omega
 |succ WH WN=>
 intro E Xq WX G WM Xb Xc WY;cases E with
 |au p y F g a=>
 obtain⟨Xr,Xd,WZ,Xe,Xs,rfl,Xt,Xf,W0,Xu,Xv,Xw,Xg,W1⟩:=Xb.ea;cases Xc with
 |au Xx Xy Xz XW Xh W2=>
 refine Runs.ey 50 Tryz.func60 rfl fun f e WJ=> ?_
 refine aq e WJ (aK fun o U v XX=> ?_);have W:=U.v aB 0 6 (I p);by_cases M:p=9
 ·have D:bG (.au p y F g a)=[y]:=sI M;simp(disch:=omega)only[aI,bC,Sz,Sy,Tb,↓SI,e,Sm,Sn,a6,eE,W,(U.B lq (a:=1) (c:=6) rfl (by simp):aD Sf o 2 (ab G.Y 1 6)=some (I y)),St M,gh So aQ gj];refine du rfl ?_;intro XY XZ Xi Xj Xk;refine bO e @SH ?_;exact⟨by rw[D];exact Xi,fun P Q=>bq (Xj P Q) v.Y,v.d Xk⟩
 have WO:bG (.au p y F g a)=(eZ (.au p y F g a)).flatMap bG:=w2 M;by_cases R:p=6
 ·have D:bG (.au p y F g a)=g.flatMap bG:=by rw[WO,mE,SM R]
  rw[D] at WY;refine ch e @Sm.{0} @Sn.{0} @a6 W M (St R) ?_;refine aZ.w (fun z f t=>∃(i:Sv) (w:Sh),z=g.length-i/\i<=g.length/\ao t 1 w ((g.take i).flatMap bG).length (df ((g.take i).flatMap bG))/\ay o.Y w/\ad o.Y o t/\f.e=50/\f.N 1=ab G.Y 0 6/\f.N 3=w/\f.N 4=I (i:Sv))
   (fun z f t=>z= .bb 1/\∃(w:Sh),ao t 1 w (g.flatMap bG).length (df (g.flatMap bG))/\ay o.Y w/\ad o.Y o t/\f.e=50/\f.N 3=w)
   ⟨0,av,rfl,Z,by rw[Sq];exact .al,ay.al _,ad.p _ _,V e,aa,aa,aa⟩ ?_ ?_
  ·clear e WJ f;rintro W3 X z f t ⟨i,w,rfl,W4,q,s,h,e,A,u,WQ⟩;have H:=v.d h;have r:=Xf.C H;have K:=(U.C h).v ft 3 6 Xd;by_cases m:i<g.length;rotate_left
   ·obtain rfl:i=g.length:=Z;rw[Sx] at q;refine ch e A WQ @c7 K (r.g Si) (Z:¬((g.length:Sv):SC)<((g.length:Sv):SC)) ?_;exact X _ _ _ ⟨rfl,w,q,s,h,V e,V u⟩
   have L:=r.r (k:= .i64) (x:=(i:SC)) Si aL Z Z;rw[Sl] at L;have W5:=r.dm bV aL m;have W6:=(Xg.H i m).C H;have⟨Xl,Xm⟩:=aO ((Xe.drop (i*5)).take 5);rw[<-Xm] at W5 W6;have Wy:=w3 g (i+1);rw[p4 m,Sg] at Wy;refine gY e A u WQ @c7 K (r.g Si) (St (Z:(i:SC)<(g.length:SC))) L W5 ((WN g[i] (ag (O.gD (k:=p) (n:=y) (b:=F) (l:=g) (d:=a) (Sk m))) _ t Xl W6 (Xh _ (Sk m)) Z).b ?_);rintro W7 W8 ⟨Wz,W9,B⟩;refine ax e (hv So So (.inl ⟨_,rfl⟩) aQ nj gj rfl (q.C B) Wz.c.X (by rw[p5,SS]) ai (p9 _) Z Z s (bq h.Y B.Y) fun WA Xa WB WC WD _ _=> ?_);refine aq e WQ ?_;exact aH (g.length-(i+1)) Z ⟨i+1,WA,rfl,Z,by rw[p4 m,Sg,p8];exact WB,WC,(h.d B).a WD,V e,V A,aa,aa⟩
  rintro z f t ⟨rfl,w,q,s,h,e,u⟩;refine bS e u @SH ?_;exact⟨by rw[D];exact q,fun P Q=>bq (s P Q) v.Y,v.d h⟩
 by_cases WK:p=7\/p=8
 ·have D:bG (.au p y F g a)=(a.map (·.2)).flatMap bG:=by rw[WO,mE,SK R,SM WK]
  rw[D] at WY;have X0:∀X1:Bool,True:=fun _=>trivial
  by_cases WL:p=7
  ·refine c1 e @Sm.{0} @Sn.{0} @a6 W M R (St WL) ?_;refine aZ.w (fun z f t=>∃(i:Sv) (w:Sh),z=a.length-i/\i<=a.length/\ao t 1 w (((a.map (·.2)).take i).flatMap bG).length (df (((a.map (·.2)).take i).flatMap bG))/\ay o.Y w/\ad o.Y o t/\f.e=50/\f.N 1=ab G.Y 0 6/\f.N 3=w/\f.N 5=I (i:Sv))
    (fun z f t=>z= .bb 3/\∃(w:Sh),ao t 1 w ((a.map (·.2)).flatMap bG).length (df ((a.map (·.2)).flatMap bG))/\ay o.Y w/\ad o.Y o t/\f.e=50/\f.N 3=w)
    ⟨0,av,rfl,Z,by rw[Sq];exact .al,ay.al _,ad.p _ _,V e,aa,aa,aa⟩ ?_ ?_
   ·clear e WJ f;rintro W3 X z f t ⟨i,w,rfl,W4,q,s,h,e,A,u,S⟩;have H:=v.d h;have r:=W0.C H;have K:=(U.C h).v eh 4 6 WZ;by_cases m:i<a.length;rotate_left
    ·obtain rfl:i=a.length:=Z;rw[Sp aA] at q;refine ch e A S @bJ K (r.g Se) (Z:¬((a.length:Sv):SC)<((a.length:Sv):SC)) ?_;exact X _ _ _ ⟨rfl,w,q,s,h,V e,V u⟩
    have L:=r.r (k:= .i64) (x:=(i:SC)) Se bx Z Z;rw[Sl] at L;have⟨Xn,WR⟩:=kS r m;have⟨WS,WT,WU,Xo⟩:=W1.H i m;have⟨Xp,WV⟩:=kn WT;have WE:=r.hC bV aL m (j:=1) Z;rw[WV] at WE;have T:i<(a.map (·.2)).length:=by rw[SA];exact m
    have WG:(a.map (·.2))[i]'(T)=a[i].2:=S2 ..;have Wy:=w3 (a.map (·.2)) (i+1);rw[p4 T,WG,Sg] at Wy;refine jG e A u S @bJ K (r.g Se) (St (Z:(i:SC)<(a.length:SC))) L WR WE ((WN a[i].2 (ag (O.fs (k:=p) (n:=y) (b:=F) (l:=g) (d:=a) (Sk m))) _ t WS (WU.C H) (W2 _ (Sk m)) Z).b ?_);rintro W7 W8 ⟨Wz,W9,B⟩;refine ax e (hv So So (.inl ⟨_,rfl⟩) aQ nj gj rfl (q.C B) Wz.c.X (by rw[p5,SS]) ai (p9 _) Z Z s (bq h.Y B.Y) fun WA Xa WB WC WD _ _=> ?_);refine aq e S ?_;exact aH (a.length-(i+1)) Z ⟨i+1,WA,rfl,Z,by rw[p4 T,WG,Sg,p8];exact WB,WC,(h.d B).a WD,V e,V A,aa,aa⟩
   rintro z f t ⟨rfl,w,q,s,h,e,u⟩;refine bS e u @SH ?_;exact⟨by rw[D];exact q,fun P Q=>bq (s P Q) v.Y,v.d h⟩
  have WW:p=8:=Z;refine cX e @Sm.{0} @Sn.{0} @a6 W M R WL (St WW) ?_;refine aZ.w (fun z f t=>∃(i:Sv) (w:Sh),z=a.length-i/\i<=a.length/\ao t 1 w (((a.map (·.2)).take i).flatMap bG).length (df (((a.map (·.2)).take i).flatMap bG))/\ay o.Y w/\ad o.Y o t/\f.e=50/\f.N 1=ab G.Y 0 6/\f.N 3=w/\f.N 5=I (i:Sv))
   (fun z f t=>z= .bb 3/\∃(w:Sh),ao t 1 w ((a.map (·.2)).flatMap bG).length (df ((a.map (·.2)).flatMap bG))/\ay o.Y w/\ad o.Y o t/\f.e=50/\f.N 3=w)
   ⟨0,av,rfl,Z,by rw[Sq];exact .al,ay.al _,ad.p _ _,V e,aa,aa,aa⟩ ?_ ?_
  ·clear e WJ f;rintro W3 X z f t ⟨i,w,rfl,W4,q,s,h,e,A,u,S⟩;have H:=v.d h;have r:=W0.C H;have K:=(U.C h).v eh 4 6 WZ;by_cases m:i<a.length;rotate_left
   ·obtain rfl:i=a.length:=Z;rw[Sp aA] at q;refine ch e A S @bJ K (r.g Se) (Z:¬((a.length:Sv):SC)<((a.length:Sv):SC)) ?_;exact X _ _ _ ⟨rfl,w,q,s,h,V e,V u⟩
   have L:=r.r (k:= .i64) (x:=(i:SC)) Se bx Z Z;rw[Sl] at L;have⟨Xn,WR⟩:=kS r m;have⟨WS,WT,WU,Xo⟩:=W1.H i m;have⟨Xp,WV⟩:=kn WT;have WE:=r.hC bV aL m (j:=1) Z;rw[WV] at WE;have T:i<(a.map (·.2)).length:=by rw[SA];exact m
   have WG:(a.map (·.2))[i]'(T)=a[i].2:=S2 ..;have Wy:=w3 (a.map (·.2)) (i+1);rw[p4 T,WG,Sg] at Wy;refine jG e A u S @bJ K (r.g Se) (St (Z:(i:SC)<(a.length:SC))) L WR WE ((WN a[i].2 (ag (O.fs (k:=p) (n:=y) (b:=F) (l:=g) (d:=a) (Sk m))) _ t WS (WU.C H) (W2 _ (Sk m)) Z).b ?_);rintro W7 W8 ⟨Wz,W9,B⟩;refine ax e (hv So So (.inl ⟨_,rfl⟩) aQ nj gj rfl (q.C B) Wz.c.X (by rw[p5,SS]) ai (p9 _) Z Z s (bq h.Y B.Y) fun WA Xa WB WC WD _ _=> ?_);refine aq e S ?_;exact aH (a.length-(i+1)) Z ⟨i+1,WA,rfl,Z,by rw[p4 T,WG,Sg,p8];exact WB,WC,(h.d B).a WD,V e,V A,aa,aa⟩
  rintro z f t ⟨rfl,w,q,s,h,e,u⟩;refine bS e u @SH ?_;exact⟨by rw[D];exact q,fun P Q=>bq (s P Q) v.Y,v.d h⟩
 have WL:¬p=7:=fun WI=>WK (.inl WI)
 have WW:¬p=8:=fun WI=>WK (.inr WI)
 have D:bG (.au p y F g a)=[]:=by rw[WO,mE,SK R,SK WK];rfl
 refine pS e @Sm.{0} @Sn.{0} @a6 W M R WL WW @SH ?_;exact⟨by rw[D];exact .al,ay.al _,v⟩
end Go.Proofs.YtgpmffbleaphkaaGreat
namespace Go.Cl
theorem w4 {f:an}{d:Option Tmp}{v:Sh}{K a:an->Prop}(h:cT f d v K)(k:∀b,K b->a b):cT f d v a:=by
 unfold cT at h|-
 split at h
 ·exact k _ h
 exact h.elim
theorem G0 {P:Program}{a:Sj Oper}:∀{r:Sj Oper} {f:an} {s:J} {Q b:an->Prop},j3 P a r f s Q->(∀c,Q c->b c)->j3 P a r f s b:=by
 intro r
 induction r with
 |nil=>intro f s Q b h k;exact k _ h
 |cons o r b=>
  intro f s Q c h k;rw[wo] at h|-
  cases c:ff a o f with
  |false=>
   rw[c] at h;exact w4 h fun f h=>b h k
  |true=>
   rw[c] at h;simp only[nO] at h|-
   unfold q4 at h|-
   split at h
   ·exact⟨h.1,w4 h.2 fun f h=>b h k⟩
   exact h.elim
theorem OQ {P:Program}{a r:Sj Oper}{o:Oper}{f:an}{s:J}{Q:an->Prop}{b:Bool}(R:an->Prop)(h:nO P a o r f s R b)(k:∀c,R c->Q c):nO P a o r f s Q b:=by
 cases b with
 |false=>exact w4 h fun _ h=>G0 h k
 |true=>
  simp only[nO] at h|-
  unfold q4 at h|-
  split at h
  ·exact⟨h.1,w4 h.2 fun _ h=>G0 h k⟩
  exact h.elim
end Go.Cl
namespace Go.Proofs.YtgpmffbleaphkaaGreat
open Go.Cl Go.Lib
theorem G1 (F:Sv->Prop)(s:J)(a:Sj Sh)(o:O)(b:aE F s a o):
  Runs Sf aw 51 [.agg a.toArray] s (GM s o):=by
 cases o with
 |au c a d l e=>
 obtain⟨a,d,e,f,g,rfl,-⟩:=b.ea;refine Runs.ey 11 Tryz.func51 rfl fun f b a=> ?_
 refine aq b a (aK fun e a d f=> ?_);have e:=a.v aB 0 6 (I c);by_cases a:c=7
 ·refine fS b @Sm.{0} @Sn.{0} @a6 e (St a) S7 ?_;exact⟨by simp[O.lu,O.a9,a],d⟩
 refine fS b @Sm.{0} @Sn.{0} @a6 e a S7 ?_;exact⟨by simp[O.lu,O.a9,a];congr,d⟩
def rp (F:Sv->Prop)(n:Sv)(j:Sv):Prop:=(F j/\j<n)\/n<=j
def OR (s:J)(F:Sv->Prop)(d:Sj (Sj Su×O))(e:Sj Su×O)(v:Sh)(a:J):Prop:=∃b,ao a 6 v (hV d e).length b/\ay s.Y v/\ad s.Y s a/\aU cE 6 (fun j=>rp F s.Y j/\ak v≠some j) a (hV d e) b
theorem G2
  (WB:Sv->Prop) (s:J) (WO:Sh) (D:Sj (Sj Su×O)) (Xv:Sj Sh) (Xw:az s 6 WO D.length Xv) (X4:aU cE 6 WB s D Xv) (Yz:D.length<=500000) (e:Sj Su×O) (Xx:Sj Sh) (W4:Sv->Prop) (Q:cE W4 s Xx e) (W5:bd e.2):
  Runs Sf aw 31 [WO,.agg Xx.toArray] s (OR s WB D e):=by
 obtain⟨WQ,rfl,WJ,W6⟩:=Q;have F:=WJ.aG;refine Runs.cS 66 Tryz.func31 rfl fun g b n Xy=> ?_
 refine aq b Xy (aK fun m X WR YA=> ?_);have X:ae m s.Y (.string ⟨e.1.toArray⟩::WQ):=X;have⟨X5,X6⟩:=e;cases X6 with
 |au W7 X7 X8 X9 Ya=>
 obtain⟨YB,YC,YD,YE,YF,Xz,-⟩:=WJ.ea;have XW:∀t,ad m.Y m t->aD Sf t 3 (ab s.Y 1 7)=some (I W7):=fun t G=>by
  have:=(X.C G).B aB (a:=1) (c:=7) (by simp[F]) (by simp[F]);rw[this,Xz];rfl
 refine cl b @Sm.{0} F @kp @a6 (XW m (ad.p _ _)) ?_;have⟨e,Q⟩:=aO ((X5,O.au W7 X7 X8 X9 Ya));rw[<-Q];have⟨R,H⟩:=aO (fun Yb a=>0<=a/\¬(fun a=>¬rp WB s.Y a) a/\ak Yb≠some a:Sh->Sv->Prop);have XX:nV e D (decide (W7=0))=hV D e:=by rw[<-Oj,Q];rfl
 have WJ:aE W4 s WQ e.2:=by rw[Q];exact WJ
 have W5:bd e.2:=by rw[Q];exact W5
 have W6:e.1.length<=9223372036854775807:=by rw[Q];exact W6
 have X:ae m s.Y (.string ⟨e.1.toArray⟩::WQ):=by rw[Q];exact X
 clear Xz XW Xy Q;have YG:=WR.Y;refine aZ.w (fun WS g t=>∃(i:Sv) (y:Sh) (h:Sj Sh) (E:Sj (Sj Su×O)) (f:Bool),WS=D.length-i/\i<=D.length/\E++nV e (D.drop i) f=hV D e/\E.length+(if f then 0 else 1)<=i+1/\ao t 6 y E.length h/\aU cE 6 (R y) t E h/\ay m.Y y/\ad m.Y m t/\g.e=66/\g.N 0=WO/\g.N 3=ab s.Y 0 7/\g.N 5=y/\g.N 6= .bool f/\g.N 7=I (i:Sv))
  (fun WS g t=>WS= .bb 0/\∃(y:Sh) (h:Sj Sh) (E:Sj (Sj Su×O)) (f:Bool),E++(if f then [] else [e])=hV D e/\E.length+(if f then 0 else 1)<=D.length+1/\ao t 6 y E.length h/\aU cE 6 (R y) t E h/\ay m.Y y/\ad m.Y m t/\g.e=66/\g.N 3=ab s.Y 0 7/\g.N 5=y/\g.N 6= .bool f)
  ⟨0,av,[],[],decide (W7=0),rfl,Z,by rw[SF,List.nil_append];exact XX,by split<;>simp,.al,aU.al,ay.al _,ad.p _ _,V b,V n,aa,aa,aa,aa⟩ ?_ ?_
 ·clear b n g XX;rintro YH Yc WS g t ⟨i,y,h,E,f,rfl,YI,o,Xf,v,S,z,l,b,n,p,A,B,K⟩;have M:=WR.d l;have w:=Xw.C M;have WK:=X.C l;by_cases WC:i<D.length;rotate_left
  ·obtain rfl:i=D.length:=Z;rw[List.drop_length] at o;refine bp b n K (w.g Se) (Z:¬((D.length:Sv):SC)<((D.length:Sv):SC)) ?_;exact Yc _ _ _ ⟨rfl,y,h,E,f,o,Xf,v,S,z,l,V b,V p,V A,V B⟩
  have WL:=w.r (k:= .i64) (x:=(i:SC)) Se bx Z Z;rw[Sl] at WL;have⟨W8,Yd⟩:=kS w WC;have⟨W9,XY,Xg,XZ⟩:=X4.H i WC;have⟨X0,YJ⟩:=kn XY;have WM:=w.fE fH WC (j:=0) Z;rw[S0,X0] at WM;have Xa:aD Sf t 9 (ab s.Y 0 7)=some (.string ⟨e.1.toArray⟩):=by
   have:=WK.B fH (a:=0) (c:=7) (by simp[F]) aA;rw[this];rfl
  refine cl b n B K (w.g Se) (St (Z:(i:SC)<(D.length:SC))) (OQ (fun q=>q.e=66/\q.N 0=WO/\q.N 3=ab s.Y 0 7/\q.N 5=y/\q.N 6= .bool f/\q.N 7=I (i:Sv)/\q.N 29= .bool (!f&& !(gG D[i].1 e.1))) ?_ ?_)
  ·cases f with
   |true=>
    exact wJ b n p A B K
   |false=>
    simp(disch:=omega)only[aI,bD,Sz,Sy,↓SI,b,n,p,A,B,K,jH,Xa,w.m,WL,W8,fT,WM,ur,zW e.1 D[i].1]
  rintro g ⟨b,n,p,A,B,K,Ye⟩;refine aq b Ye ?_;have⟨WT,Wy⟩:=aO (E++(if !f&& !(gG D[i].1 e.1) then [e] else []));have⟨WN,Xb⟩:=aO ((f|| !(gG D[i].1 e.1)));have YK:WT.length+(if WN then 0 else 1)<=i+1:=by
   rw[Wy,Xb,Sg];cases f
   ·cases gG D[i].1 e.1<;>simp_all
   simpa using Xf
  rw[Ok WC,<-S1,<-S1,<-Wy,<-Xb] at o;refine ux (fun q Xh=>∃(y:Sh) (h:Sj Sh),ao Xh 6 y WT.length h/\aU cE 6 (R y) Xh WT h/\ay m.Y y/\ad m.Y m Xh/\q.e=66/\q.N 0=WO/\q.N 3=ab s.Y 0 7/\q.N 5=y/\q.N 6= .bool WN/\q.N 7=I (i:Sv)) ?_ ?_
  ·intro YL X1;refine sj (fun WD=> ?_) (fun WD=> ?_)
   ·rw[SM WD] at Wy;refine kN ?_;refine LB.T 1 1 fun Yf WU Xi _ WE Yg=> ?_
    have WV:=WK.C WE;have Xj:aD Sf (aS t 1) 9 (ab s.Y 0 7)=some (.string ⟨e.1.toArray⟩):=by
     have:=WV.B fH (a:=0) (c:=7) (by simp[F]) aA;rw[this];rfl
    have Xk:aD Sf (aS t 1) 26 (ab s.Y 1 7)=some (.agg WQ.toArray):=by
     have:=ae.ka bV aL WV (a:=1) (c:=7) (by simp[F]) (by simp[F]);rw[this,SD,SF,Sp Z]
    have WW:=WJ.C (M.d WE);refine gY b p A @jH @kp ((LA.D Xi WK.n)) Xj Xk v.m WW.m ?_;refine(sD _ e.2 (Sr _) W4 (aS t 1) _ WW W5).b ?_;rintro _ Yh ⟨WG,rfl,T,WH⟩;have Yi:=WH.Y;refine⟨fun _=>LA.ar.R WU (WH.q Z),?_⟩;have WI:=T.aG;have⟨r,L⟩:=aO (Sw ⟨e.1.toArray⟩::WG);have U:r.length=6:=by rw[L];simp[WI]
    have Xl:bn (.agg r.toArray) (.agg r.toArray)=true:=by
     have:=T.m;rw[L]
     match WG,WI,this with
     |[Yj,X2,Yk,Yl,e],_,this=>
      simp[bn,dF] at this|-
      exact⟨by simp[b9],this⟩
    have WX:=p0 e.1 WI;rw[<-L] at WX;simp(disch:=omega)only[aI,dy,bC,Sz,↓SI,b,WX,Xl,gC (a:=r.toArray) Se bx eD hE rfl U (by decide)];refine LB.fD (a:=t.Y) U Z (Sr _) ?_;intro Ym Xm Xn Yn Xo Xp Xq;have W:=(WE.d WH).a Xo;have Yo:=W.Y;have Yp:=M.Y;have WY:cE (R y) Xm r e:=by
     refine⟨WG,L,(T.j (u:=bI t.Y) (aF.f Xp Xq) (fun a d e=> ?_)).b (fun a d=> ?_),W6⟩
     ·have e:some t.Y=some a:=e;injection e with e;omega
     rw[H];exact⟨S4 _,fun G=>G (.inr Z),fun e=>ag (v.z _ e)⟩
    refine ax b ?_;refine LB.jE Se Se (.inl ⟨_,rfl⟩) bx nm eD rfl (v.C W) Xn.c.X U ai (show r.all aN=true by rw[L,SJ,T.K];rfl) Z Z (a:=m.Y) z Z (fun G=>S8 rfl G) (fun a d=>ag (WU a d)) ?_;intro P Yq WZ Xr W0 W1;have Wz:=S.C bY W;rw[H] at Wz WY;have WA:=Wz.dO bY U WY W0 W1;rw[show(fun a=>0<=a/\¬(fun a=>¬rp WB s.Y a) a/\ak P≠some a)=R P by rw[H]] at WA;refine aq b WZ.m ?_;exact X1 _ _ ⟨P,_,by rw[Wy,Sg];exact WZ,by rw[Wy];exact WA,Xr,((l.d W).a (W0.C z (ag l.Y))),V b,V n,V p,aa,V (show WN=true by rw[Xb];simp at WD;simp[WD]),V K⟩
   rw[WD,SK ai,SP] at Wy;have Yr:WN=f:=by
    rw[Xb];cases f
    ·simp at WD;simp[WD]
    rfl
   refine kN ?_;exact X1 _ _ ⟨y,h,by rw[Wy];exact v,by rw[Wy];exact S,z,l,V b,V n,V p,V A,F2 B Yr,V K⟩
  rintro g t ⟨y,h,v,S,z,l,b,n,p,A,B,K⟩;have M:=WR.d l;have w:=Xw.C M;have WL:=w.r (k:= .i64) (x:=(i:SC)) Se bx Z Z;rw[Sl] at WL;have⟨W8,Yd⟩:=kS w WC;have WM:=w.fE fH WC (j:=0) Z;rw[S0,X0] at WM;have Xs:=w.dm gF bx WC;rw[XY] at Xs;have⟨W2,Xc⟩:=aO (Sw ⟨(D[i].1).toArray⟩::W9);rw[<-Xc] at Xs;have Xd:W2.length=6:=by rw[Xc];simp[Xg.aG]
  have Xa:aD Sf t 9 (ab s.Y 0 7)=some (.string ⟨e.1.toArray⟩):=by
   have:=(X.C l).B fH (a:=0) (c:=7) (by simp[F]) aA;rw[this];rfl
  by_cases Xe:D[i].1=e.1
  ·have Xt:(D[i].1==e.1)=true:=beq_iff_eq.2 Xe;rw[Xt,SK ai,SP] at o;refine mA b n p K @jH Xa w.m WL W8 @fT WM @wR (SO (not_not_intro Xe)) ?_;exact aH (D.length-(i+1)) Z ⟨i+1,y,h,WT,WN,rfl,Z,o,Z,v,S,z,l,V b,V n,V p,V A,V B,aa⟩
  have Xt:(D[i].1==e.1)=false:=beq_eq_false_iff_ne.2 Xe;rw[Xt,SM ai] at o;simp(disch:=omega)only[aI,bD,bC,Sz,Sy,↓SI,b,n,p,A,K,jH,Xa,w.m,WL,W8,fT,WM,wR,SQ (show D[i].1≠e.1 from Xe),Xs,gC (a:=W2.toArray) Se bx eD hE rfl Xd ai];refine du (by rw[Xd]) ?_;intro X2 Ys Yt YM W3;refine ax b ?_;refine hv Se Se (.inl ⟨_,rfl⟩) bx nm eD rfl (v.C W3) Yt.c.X Xd ai (show W2.all aN=true by rw[Xc,SJ,Xg.K];rfl) Z Z z (bq l.Y W3.Y) ?_;intro P YN Yu Yv Yw Yx W1;have X3:cE (R y) Ys W2 D[i]:=by
   refine⟨W9,Xc,?_,XZ⟩;have:=((bY.eV ⟨W9,rfl,Xg,XZ⟩:cE (fun a=>WB a/\a<s.Y) s (.string ⟨(D[i].1).toArray⟩::W9) D[i]));have⟨YO,Xu,Yy,_⟩:=this;injection Xu with _ Xu;rw[Xu];refine(Yy.C (M.d W3)).b (fun a d=> ?_);rw[H];exact⟨S4 _,fun G=>G (.inl d),fun e=>bq (z _ e) d.2⟩
  have Wz:=S.C bY W3;rw[H] at Wz X3;have WA:=Wz.dO bY Xd X3 Yx W1;rw[show(fun a=>0<=a/\¬(fun a=>¬rp WB s.Y a) a/\ak P≠some a)=R P by rw[H]] at WA;refine aq b K ?_;exact aH (D.length-(i+1)) Z ⟨i+1,P,h++W2,WT++[D[i]],WN,rfl,Z,o,by rw[Sg,List.length_singleton];omega,by rw[Sg];exact Yu,WA,Yv,(l.d W3).a Yw,V b,V n,V p,aa,V B,aa⟩
 rintro WS g t ⟨rfl,y,h,E,f,o,Xf,v,S,z,l,b,p,A,B⟩;have M:=WR.d l;have WK:=X.C l;cases f with
 |true=>
  rw[SM rfl,SP] at o;refine b0 b A B S9 ?_;exact⟨h,by rw[<-o];exact v,fun a d=>ag (z a d),M,by rw[<-o];exact S.b bY (fun a d=>by rw[H] at d;exact⟨Classical.not_not.1 d.2.1,d.2.2⟩)⟩
 |false=>
  rw[SK ai] at o;refine aq b B ?_;refine LB.T 1 1 fun Yf WU Xi _ WE Yg=> ?_
  have WV:=WK.C WE;have Xj:aD Sf (aS t 1) 9 (ab s.Y 0 7)=some (.string ⟨e.1.toArray⟩):=by
   have:=WV.B fH (a:=0) (c:=7) (by simp[F]) aA;rw[this];rfl
  have Xk:aD Sf (aS t 1) 26 (ab s.Y 1 7)=some (.agg WQ.toArray):=by
   have:=ae.ka bV aL WV (a:=1) (c:=7) (by simp[F]) (by simp[F]);rw[this,SD,SF,Sp Z]
  have WW:=WJ.C (M.d WE);refine gY b p A @jH @kp ((LA.D Xi WK.n)) Xj Xk v.m WW.m ?_;refine(sD _ e.2 (Sr _) W4 (aS t 1) _ WW W5).b ?_;rintro _ Yh ⟨WG,rfl,T,WH⟩;have Yi:=WH.Y;refine⟨fun _=>LA.ar.R WU (WH.q Z),?_⟩;have WI:=T.aG;have⟨r,L⟩:=aO (Sw ⟨e.1.toArray⟩::WG);have U:r.length=6:=by rw[L];simp[WI]
  have Xl:bn (.agg r.toArray) (.agg r.toArray)=true:=by
   have:=T.m;rw[L]
   match WG,WI,this with
   |[Yj,X2,Yk,Yl,e],_,this=>
    simp[bn,dF] at this|-
    exact⟨by simp[b9],this⟩
  have WX:=p0 e.1 WI;rw[<-L] at WX;simp(disch:=omega)only[aI,dy,bC,Sz,↓SI,b,WX,Xl,gC (a:=r.toArray) Se bx eD hE rfl U (by decide)];refine LB.fD (a:=t.Y) U Z (Sr _) ?_;intro Ym Xm Xn Yn Xo Xp Xq;have W:=(WE.d WH).a Xo;have Yo:=W.Y;have Yp:=M.Y;have WY:cE (R y) Xm r e:=by
   refine⟨WG,L,(T.j (u:=bI t.Y) (aF.f Xp Xq) (fun a d e=> ?_)).b (fun a d=> ?_),W6⟩
   ·have e:some t.Y=some a:=e;injection e with e;omega
   rw[H];exact⟨S4 _,fun G=>G (.inr Z),fun e=>ag (v.z _ e)⟩
  refine ax b ?_;refine LB.jE Se Se (.inl ⟨_,rfl⟩) bx nm eD rfl (v.C W) Xn.c.X U ai (show r.all aN=true by rw[L,SJ,T.K];rfl) Z Z (a:=m.Y) z Z (fun G=>S8 rfl G) (fun a d=>ag (WU a d)) ?_;intro P Yq WZ Xr W0 W1;have Wz:=S.C bY W;rw[H] at Wz WY;have WA:=Wz.dO bY U WY W0 W1;rw[show(fun a=>0<=a/\¬(fun a=>¬rp WB s.Y a) a/\ak P≠some a)=R P by rw[H]] at WA;refine bS b WZ.m S9 ?_;exact⟨h++r,by rw[<-o,Sg];exact WZ,fun a d=>ag (Xr a d),WR.d ((l.d W).a (W0.C z (ag l.Y))),by rw[<-o];exact WA.b bY (fun a d=>by rw[H] at d;exact⟨Classical.not_not.1 d.2.1,d.2.2⟩)⟩
structure w5 (aV:bg):Prop where
 GQ:aV.M 29=none
 acV:aV.M 42=none
 lu:aV.M 51=none
 acW:aV.M 31=none
 nN:aV.M 28=none
 OS:aV.M 12=none
 N:aV.M 65=none
 vJ:aV.M 15=none
theorem G3 (Xi:w5 aw)
  (F:Sv->Prop) (B:J) (D:Sj Sh) (o:O) (W:aE F B D o) (WO:bd o) (X:Sh) (K:Sj (Sj Su)) (Xj:az B 1 X K.length (uz K)) (X6:K.length<=100000) (Xk:∀k∈K,k.length<=9223372036854775807):
  Runs Sf aw 28 [.agg D.toArray,X] B (ei B (kb o (fU K))):=by
 have Wy:=W.aG;refine Runs.ef 27 Tryz.func28 Xi.nN fun f a=> ?_
 refine ax a (aK fun WQ Xl WR X7=> ?_);refine aW a Wy @b8 @cy (aK fun Wz WS WA X8=> ?_);have q:=WR.d WA;have WT:=Xl.C WA;have WU:bX.length+1=6:=rfl;refine aR a (ah.L WT Wy) WU ((sD _ o (Sr _) F Wz D (W.C q) WO).b ?_);rintro _ d ⟨Xm,rfl,E,H⟩;have L:=E.aG;refine aR a @b8 @cy (aK fun X9 Xn Xo Ya=> ?_);refine aq a WU (bh aL ai Xn rfl rfl L E.K fun WV Xp Yb Xq=> ?_);have WW:=Xo.a ⟨Z,fun j b=>Xq j Z⟩;have WB:=H.d WW;have WX:=q.d WB;refine aq a (ah.L (WT.C WB) Wy) ((G1 F WV D o (W.C WX)).b ?_);rintro _ Yc ⟨rfl,M⟩;have r:=WW.d M;have WY:=WB.d M;have Yd:=WX.d M;have WZ:=(Xp:ae WV d.Y Xm).C M;have W0:=E.C r;have W1:=WR.Y;have Ye:=H.Y;have Yf:=WA.Y;have Yg:=r.Y;cases W2:o.lu with
 |false=>
  refine aq a (ah.L WZ L) (bh aL ai (WS.C WY) rfl rfl L W0.K fun Xr WC WD WE=> ?_);refine bS a (ah.L WC L) Ta ?_;rw[(show kb o (fU K)=o by unfold kb;rw[W2];rfl)];exact ei.u W0 (fun j b=>⟨Z,Z⟩) WD WE (q.d WY) W1
 |true=>
 cases o with
 |au l m WG WH e=>
 obtain⟨P,Q,Xs,Yh,Xt,rfl,Xu,Xv,Xw,Xx,Xy,Xz,XW,XX⟩:=(E.fF).ea;have⟨G,R⟩:=aO (fun j=>Wz.Y<=j/\j≠d.Y:Sv->Prop);have s:∀j,Wz.Y<=j/\j<d.Y->G j:=fun j b=>by rw[R];exact⟨b.1,Z⟩
 refine ax a ?_;refine aZ.w (fun z f t=>∃(i:Sv) (w:Sh) (g:Sj Sh),z=K.length-i/\i<=K.length/\az t 6 w (ep e (fU (K.take i))).length g/\bA G w/\aU cE 6 G t (ep e (fU (K.take i))) g/\ae t d.Y [I l,I m,P,Q,w]/\ad d.Y d t/\f.e=27/\f.N 1=X/\f.N 4=ab WQ.Y 0 6/\f.N 5=ab d.Y 0 6/\f.N 6=I (i:Sv))
  (fun z f t=>z= .bb 0/\∃(w:Sh) (g:Sj Sh),az t 6 w (ep e (fU K)).length g/\bA G w/\aU cE 6 G t (ep e (fU K)) g/\ae t d.Y [I l,I m,P,Q,w]/\ad d.Y d t/\f.e=27/\f.N 4=ab WQ.Y 0 6/\f.N 5=ab d.Y 0 6)
  ⟨0,Xs,Xt,rfl,Z,by rw[Sq];exact Xw.C r,Xz.b s,by rw[Sq];exact(XX.b bY s).C bY r,WZ,r,V a⟩ ?_ ?_
 ·clear a f;rintro Yi XY z f t ⟨i,w,g,rfl,Yj,u,WI,v,y,h,a⟩;have W3:=q.d (H.d h);have S:=Xj.C W3;by_cases A:i<K.length;rotate_left
  ·obtain rfl:i=K.length:=Z;rw[Sx] at u v;refine aR a (S.g SB) (Z:¬((K.length:Sv):SC)<((K.length:Sv):SC)) ?_;exact XY _ _ _ ⟨rfl,w,g,u,WI,v,y,h,V a⟩
  have Yk:=h.Y;refine aR a (S.g SB) (St (Z:(i:SC)<(K.length:SC))) (LB.T 1 0 fun Yl XZ W4 _ p Ym=> ?_);have WJ:=y.C p;have WK:=S.C p;have W5:=u.C p;have W6:=WK.r (k:= .i64) (x:=(i:SC)) SB rj Z Z;rw[Sl] at W6;have W7:=WK.P fH A;rw[GU A] at W7;have⟨W8,WL⟩:=aO (Sw ⟨(K[i]).toArray⟩::bX);have W9:=GS K[i];rw[<-WL] at W9;refine jG a @bJ ((LA.D W4 (by have:=y.n;omega))) ((WJ.o eh 4 6:aD Sf (aS t 0) 24 (ab d.Y 4 6)=some w)) W5.m WK.m W6 W7 W9 ((show bn (.agg W8.toArray) (.agg W8.toArray)=true by rw[WL];simp[bn,dF,bX,b9])) (LA.iG S W4 A) ?_;have X0:=z1 e (fU (K.take i));have Yn:e.length<=100000:=by cases WO;assumption
  rw[Ad,S3] at X0;have Yo:=W3.d p;refine(G2 G (aS t 0) w _ g W5 (v.C bY p) Z (K[i],O.ck) _ F ⟨bX,WL,aE.ck _ _,Xk _ (Sk A)⟩ bd.ck).b ?_;rintro T X1 ⟨X2,U,X3,WM,Xa⟩;refine⟨fun _=>LA.ar.R XZ (WM.q Z),?_⟩;rw[<-(show ep e (fU (K.take (i+1)))=hV (ep e (fU (K.take i))) (K[i],O.ck) by rw[GV A,GA])] at U Xa;have Yp:=WJ.n;refine LB.gV mC ai (WJ.C WM) (b:=4) (c:=6) rfl (a:=[T]) U.c.gA rfl aA (by simp[U.c.aN]) (fun X4=>S8 rfl X4) ?_;intro Xb X5 Xc WN;have Xd:∀j,G j->ak (bI d.Y)≠some j:=fun j b n=>by
   have n:some d.Y=some j:=n;injection n with n;rw[R] at b;exact b.2 n.symm
  have Xe:∀j,rp G (aS t 0).Y j->G j:=fun j b=>by
   rcases b with b|b
   ·exact b.1
   rw[R];exact⟨Z,Z⟩
  have Xf:∀j,ak T=some j->G j:=fun j b=>Xe j (.inr (X3 j b))
  refine ax a ?_;exact aH (K.length-(i+1)) Z ⟨i+1,T,X2,rfl,Z,(U.f Xc WN (fun n=>Xd _ (Xf _ n) rfl)).c,bA.gE Xf,((Xa.b bY (fun j b=>Xe j b.1)).j bY (aF.f Xc WN) Xd),(X5:ae Xb d.Y [I l,I m,P,Q,T]),((h.d p).a (WM.q Z)).a (⟨Z,fun j b=>WN j Z⟩:ad d.Y X1 Xb),V a⟩
 clear a f;rintro z f t ⟨rfl,w,g,u,WI,v,y,h,a⟩;have Xg:aE G t [I l,I m,P,Q,w] (.au l m WG WH (ep e (fU K))):=aE.lZ (Xu.C h) (Xv.C h) u (Xx.b s) (Xy.b s) WI ((XW.b cm s).C cm h) v;have Xh:=H.d h;refine aq a (ah.L y rfl) (bh aL ai (WS.C Xh) rfl rfl rfl Xg.K fun Xr WC WD WE=> ?_);refine bS a (ah.L WC rfl) Ta ?_;rw[(show kb (.au l m WG WH e) (fU K)= .au l m WG WH (ep e (fU K)) by unfold kb;rw[W2];rfl)];exact ei.u Xg (fun j b=>by rw[R] at b;exact⟨Z,Z⟩) WD WE (q.d Xh) W1
theorem OT (WK:w5 aw)
  (S:Sv->Prop) (s:J) (y:Sh) (L:Sj (Sj Su×O)) (T:Sj Sh) (WL:az s 6 y L.length T) (WM:aU cE 6 S s L T) (W8:L.length<=100000) (WN:∀e∈L,bd e.2):
  Runs Sf aw 12 [y] s (ei s (.au 7 0 [] [] (ep [] L))):=by
 refine Runs.dZ 21 Tryz.func12 WK.OS fun f b=> ?_
 refine aq @b8 @cy (aK fun a U q W9=> ?_);have W:bX.length+1=6:=rfl;refine bp b W @w1 @b8 @cy (aK fun Xa WO WQ Xb=> ?_);refine aq b W (bh aL ai WO rfl rfl rfl rfl fun WR WS Xc WT=> ?_);have A:=WQ.a ⟨Z,fun j d=>WT j Z⟩;have Xd:=q.d A;have Xe:=U.C A;have Xf:=q.Y;have⟨G,B⟩:=aO (fun j=>a.Y<=j/\j≠a.Y:Sv->Prop);refine ax b ?_;refine aZ.w (fun z f t=>∃(i:Sv) (w:Sh) (g:Sj Sh),z=L.length-i/\i<=L.length/\az t 6 w (ep [] (L.take i)).length g/\bA G w/\aU cE 6 G t (ep [] (L.take i)) g/\ae t a.Y [I 7,I 0,av,av,w]/\ad a.Y a t/\f.e=21/\f.N 0=y/\f.N 2=ab s.Y 0 6/\f.N 3=ab a.Y 0 6/\f.N 4=I (i:Sv))
  (fun z f t=>z= .bb 0/\∃(w:Sh) (g:Sj Sh),az t 6 w (ep [] L).length g/\bA G w/\aU cE 6 G t (ep [] L) g/\ae t a.Y [I 7,I 0,av,av,w]/\ad a.Y a t/\f.e=21/\f.N 2=ab s.Y 0 6/\f.N 3=ab a.Y 0 6)
  ⟨0,av,[],rfl,Z,by rw[Sq];exact .al,trivial,by rw[Sq];exact aU.al,(WS:ae WR a.Y [I 7,I 0,av,av,av]),A,V b⟩ ?_ ?_
 ·clear b f;rintro Xg WU z f t ⟨i,w,g,rfl,Xh,m,D,n,o,h,b⟩;have X:=q.d h;have r:=WL.C X;by_cases p:i<L.length;rotate_left
  ·obtain rfl:i=L.length:=Z;rw[Sx] at m n;refine aR b (r.g Se) (Z:¬((L.length:Sv):SC)<((L.length:Sv):SC)) ?_;exact WU _ _ _ ⟨rfl,w,g,m,D,n,o,h,V b⟩
  have Xi:=h.Y;refine aR b (r.g Se) (St (Z:(i:SC)<(L.length:SC))) (LB.T 1 0 fun Xj WV Wy _ l Xk=> ?_);have E:=o.C l;have F:=r.C l;have Wz:=m.C l;have WA:=F.r (k:= .i64) (x:=(i:SC)) Se bx Z Z;rw[Sl] at WA;have H:=F.dm gF bx p;have⟨K,WW,M,WX⟩:=WM.H i p;rw[WW] at H;have⟨WB,P⟩:=aO (Sw ⟨(L[i].1).toArray⟩::K);rw[<-P] at H;have WY:bn (.agg WB.toArray) (.agg WB.toArray)=true:=by
   have:=M.m;rw[P]
   match K,(M.aG),this with
   |[Xl,Xm,Xn,Xo,e],_,this=>
    simp[bn,dF] at this|-
    exact⟨by simp[b9],this⟩
  refine jG b @bJ (LA.D Wy (by have:=o.n;omega)) (E.o eh 4 6:aD Sf (aS t 0) 24 (ab a.Y 4 6)=some w) Wz.m F.m WA H WY @lW (LA.iG r Wy p) ?_;have WZ:=z1 [] (L.take i);rw[S3,Sn] at WZ;refine(G2 G (aS t 0) w _ g Wz (n.C bY l) Z L[i] _ S ⟨K,P,M.C (X.d l),WX⟩ (WN _ (Sk p))).b ?_;rintro u W0 ⟨W1,v,W2,Q,WC⟩;refine⟨fun _=>LA.ar.R WV (Q.q Z),?_⟩;rw[<-(GB p:ep [] (L.take (i+1))=hV (ep [] (L.take i)) L[i])] at v WC;have Xp:=E.n;refine LB.gV mC ai (E.C Q) (b:=4) (c:=6) rfl (a:=[u]) v.c.gA rfl aA (by simp[v.c.aN]) (fun W3=>S8 rfl W3) ?_;intro WD W4 WE R;have WG:∀j,G j->ak (bI a.Y)≠some j:=fun j d e=>by
   have e:some a.Y=some j:=e;injection e with e;rw[B] at d;exact d.2 e.symm
  have WH:∀j,rp G (aS t 0).Y j->G j:=fun j d=>by
   rcases d with d|d
   ·exact d.1
   rw[B];exact⟨Z,Z⟩
  have WI:∀j,ak u=some j->G j:=fun j d=>WH j (.inr (W2 j d))
  refine ax b ?_;exact aH (L.length-(i+1)) Z ⟨i+1,u,W1,rfl,Z,(v.f WE R (fun e=>WG _ (WI _ e) rfl)).c,bA.gE WI,((WC.b bY (fun j d=>WH j d.1)).j bY (aF.f WE R) WG),(W4:ae WD a.Y [I 7,I 0,av,av,u]),((h.d l).a (Q.q Z)).a (⟨Z,fun j d=>R j Z⟩:ad a.Y W0 WD),V b⟩
 rintro z f t ⟨rfl,w,g,m,D,n,o,h,b⟩;have WJ:aE G t [I 7,I 0,av,av,w] (.au 7 0 [] [] (ep [] L)):=aE.lZ .al .al m trivial trivial D aU.al n;refine aq b (ah.L o rfl) (bh aL ai (U.C h) rfl rfl rfl WJ.K fun Xq W5 W6 W7=> ?_);refine bS b (ah.L W5 rfl) Tryz.results12 ?_;exact ei.u WJ (fun j d=>by rw[B] at d;exact⟨Z,Z⟩) W6 W7 (q.d h) (Sr _)
theorem l0.ck {s t:J}(h:ad s.Y s t):l0 s O.ck (.agg bX.toArray) t:=⟨0,0,[],[],[],_,_,_,[],[],rfl,rfl,.al,ay.al _,.al,.al,trivial,trivial,aU.al,aU.al,h⟩
theorem l0.u {s t c u:J}{o:O}{v:Sh}{i:Sv}(p:l0 t o v c)(h:ad s.Y s t)(Q:i<t.Y)(R:s.Y<=i)(r:u.Y=c.Y)(k:∀q,q≠i->u.i.N q=c.i.N q):l0 s o v u:=by
 obtain⟨w,x,y,z,A,B,d,D,E,F,rfl,rfl,G,l,H,K,m,n,L,M,P⟩:=p;have S:=h.Y;have b:aF (.pointer (some ⟨i,0,SE⟩)) c u:=aF.f r k;have f:∀j,t.Y<=j/\ak d≠some j->ak (.pointer (some ⟨i,0,SE⟩))≠some j:=fun j a e=>by
  have e:some i=some j:=e;injection e with e;have:=a.1;omega
 have g:∀j,t.Y<=j/\ak d≠some j->s.Y<=j/\ak d≠some j:=fun j a=>⟨ag a.1,a.2⟩
 exact⟨w,x,y,z,A,B,d,D,E,F,rfl,rfl,G.j b (fun j a e=>by have e:some i=some j:=e;injection e with e;have:=l j a;omega),fun j a=>ag (l j a),H.hA m b f,K.hA n b f,m.b g,n.b g,(L.j cm b f).b cm g,(M.j bY b f).b bY g,(h.d P).a ⟨Z,fun j a=>k j Z⟩⟩
theorem OU (F:Sv->Prop)(s:J)(D:Sj Sh)(o:O)(E:aE F s D o)(WR:bd o)(k:Sj Su):
  Runs Sf aw 65 [.agg D.toArray,.string ⟨k.toArray⟩] s (l0 s (cV o k)):=by
 have Wz:=E.aG;refine Runs.cS 31 Tryz.func65 rfl fun f a WA h=> ?_
 refine aq a WA (aK fun u WS v Xf=> ?_);have WT:bX.length+1=6:=rfl;refine aW a Wz @b8 @cy (aK fun r w WB Xg=> ?_);have l:=v.d WB;have G:=WS.C WB;refine aR a (ah.L G Wz) WT ((G1 F r D o (E.C l)).b ?_);rintro _ Xh ⟨rfl,m⟩;have WU:=G.C m;have Xi:=w.C m;have WC:=l.d m;cases WD:o.lu with
 |false=>
  have WV:cV o k=O.ck:=by unfold cV;rw[WD];rfl
  rw[WV];have WW:=v.Y;have WX:=l.Y;have WY:=(m).Y;refine aq a @uy (bh aL ai (w.C m) rfl rfl rfl rfl fun WZ H W0 K=> ?_);refine bS a (ah.L H rfl) SU ?_;exact l0.ck ((WC).a ⟨Z,fun b y=>K b Z⟩)
 |true=>
 cases o with
 |au L M P Q d=>
 obtain⟨Xj,Xk,WE,Xl,Xm,rfl,Xn,Xo,WG,Xp,Xq,Xr,Xs,W1⟩:=E.ea;cases WR with
 |au Xt Xu Xv Xw Xx W2=>
 have WH:cV (.au L M P Q d) k=oX d k:=by unfold cV;rw[WD];rfl
 have Xy:=WG.C WC;have Xz:=WU.v eh 4 6 WE;refine ax a ?_;refine aZ.w (fun z f t=>∃i:Sv,z=d.length-i/\i<=d.length/\(∀b (n:b<d.length),b<i->d[b].1≠k)/\ad r.Y r t/\f.e=31/\f.N 1= .string ⟨k.toArray⟩/\f.N 2=ab s.Y 0 6/\f.N 4=ab u.Y 0 6/\f.N 5=I (i:Sv))
  (fun z f t=>(z= .bF/\f.e=31/\f.N 4=ab u.Y 0 6/\∃p,p.length=5/\ae t u.Y p/\l0 s (cV (.au L M P Q d) k) (.agg p.toArray) t)\/(z= .bb 0/\f.e=31/\f.N 4=ab u.Y 0 6/\cV (.au L M P Q d) k=O.ck/\ad r.Y r t))
  ⟨0,rfl,Z,fun b n XW=>Z,m,V a,V h,aa,aa,aa⟩ ?_ ?_
 ·clear a WA h f;rintro XX WI z f t ⟨i,rfl,XY,R,c,a,h,A,e,S⟩;have T:=l.d c;have g:=WG.C T;have U:=(G.C c).v eh 4 6 WE;by_cases q:i<d.length;rotate_left
  ·obtain rfl:i=d.length:=Z;refine ch a A S @bJ U (g.g Se) (Z:¬((d.length:Sv):SC)<((d.length:Sv):SC)) ?_;exact WI _ _ _ (.inr ⟨rfl,V a,V e,by rw[WH];exact GP (fun b n=>R b n n),c⟩)
  have WJ:(i:SC)<(d.length:SC):=Z;have W:=g.r (k:= .i64) (x:=(i:SC)) Se bx Z Z;rw[Sl] at W;have⟨WK,W3⟩:=kS g q;have⟨XZ,W4,WL,X0⟩:=W1.H i q;have X1:=WL.aG;have⟨W5,W6⟩:=kn W4;have X:=g.fE fH q (j:=0) Z;rw[S0,W5] at X;have WM:=g.hC bV aL q (j:=1) Z;rw[W6] at WM;by_cases B:d[i].1=k
  ·have W7:=W2 _ (Sk q);refine kP a h A S @bJ U (g.g Se) (St WJ) W WK W3 X WM @ie (SQ B) ((Gr _ d[i].2 (Sr _) F t _ (WL.C T) W7).b ?_);rintro _ X2 WN;obtain⟨p,rfl,WO,W8⟩:=WN.x;have WQ:=WO.aG;have X3:=c.Y;refine aq a e (bh aL ai (w.C (c.d W8)) rfl rfl WQ WO.K fun X4 Wy W9 Xa=> ?_);refine ax a ?_;refine WI _ _ _ (.inl ⟨rfl,V a,V e,p,WQ,Wy,?_⟩);rw[WH,GO q B (fun b y=>R b Z y)];exact WN.u T Z (v.Y) W9 Xa
  refine mA a h A S @bJ U (g.g Se) (St WJ) W WK X @ie (SO B) ?_;refine aH (d.length-(i+1)) Z ⟨i+1,rfl,Z,fun b n y=> ?_,c,V a,V h,V A,V e,aa⟩;by_cases Xb:b=i
  ·subst Xb;exact B
  exact R b n Z
 rintro z f t (⟨rfl,a,e,p,Xc,Wy,Xd⟩|⟨rfl,a,e,Xe,c⟩)
 ·refine b0 a e (ah.L Wy Xc) SU ?_;exact Xd
 rw[Xe];have WW:=v.Y;have WX:=l.Y;have WY:=(c).Y;refine aR a e @uy (bh aL ai (w.C c) rfl rfl rfl rfl fun WZ H W0 K=> ?_);refine b0 a e (ah.L H rfl) SU ?_;exact l0.ck (((l.d c)).a ⟨Z,fun b y=>K b Z⟩)
theorem OV (F:Sv->Prop)(s:J)(a:Sj Sh)(o:O)(b:aE F s a o)(c:bd o)(k:Sj Su):
  Runs Sf aw 65 [.agg a.toArray,.string ⟨k.toArray⟩] s (ei s (cV o k)):=(OU F s a o b c k).b fun _ _ h=>h.x
theorem OW (WA:Sv->Prop)(s:J)(Q:Sh)(l:Sj O)(R:Sj Sh)(WB:az s 5 Q l.length R)(WU:aU aE 5 WA s l R)(Xe:l.length<=100000)(WV:∀WW∈l,bd WW):
  Runs Sf aw 15 [Q] s (ei s (.au 6 0 [] l [])):=by
 refine Runs.dZ 23 Tryz.func15 rfl fun f a=> ?_
 refine aq @b8 @cy (aK fun b WC E Xf=> ?_);have WD:bX.length+1=6:=rfl;refine bp a WD @w1 @b8 @cy (aK fun Xg WX WY Xh=> ?_);refine aq a WD (bh aL ai WX rfl rfl rfl rfl fun h F Xi WZ=> ?_);have F:ae h b.Y [I 6,I 0,av,av,av]:=F;have G:=WY.a ⟨Z,fun j d=>WZ j Z⟩;have Xj:=WC.C G;have Xk:=WB.C (E.d G);have Xl:=E.Y;have Xm:=G.Y;have Xn:=F.n;refine ax a ?_;have⟨r,v⟩:=aO (fun W0 j=>h.Y<=j/\¬(fun _=>False) j/\ak W0≠some j:Sh->Sv->Prop);refine aZ.w (fun z f t=>∃(i:Sv) (y:Sh) (g:Sj Sh),z=l.length-i/\i<=l.length/\ao t 5 y i g/\aU aE 5 (r y) t (l.take i) g/\ay h.Y y/\ae t b.Y [I 6,I 0,av,y,av]/\ad b.Y b t/\h.Y<=t.Y/\f.e=23/\f.N 0=Q/\f.N 2=ab s.Y 0 6/\f.N 3=ab b.Y 0 6/\f.N 4=I (i:Sv))
  (fun z f t=>z= .bb 0/\∃(y:Sh) (g:Sj Sh),ao t 5 y l.length g/\aU aE 5 (r y) t l g/\ay h.Y y/\ae t b.Y [I 6,I 0,av,y,av]/\ad b.Y b t/\f.e=23/\f.N 2=ab s.Y 0 6/\f.N 3=ab b.Y 0 6)
  ⟨0,av,[],rfl,Z,.al,by rw[Sq];exact aU.al,ay.al _,F,G,Sr _,V a⟩ ?_ ?_
 ·clear a f;rintro Xo W1 z f m ⟨i,y,g,rfl,Xp,o,w,p,q,H,Xq,a⟩;have WE:=E.d H;have K:=WB.C WE;by_cases A:i<l.length;rotate_left
  ·obtain rfl:i=l.length:=Z;rw[Sx] at w;refine aR a (K.g Si) (Z:¬((l.length:Sv):SC)<((l.length:Sv):SC)) ?_;exact W1 _ _ _ ⟨rfl,y,g,o,w,p,q,H,V a⟩
  refine aR a (K.g Si) (St (Z:(i:SC)<(l.length:SC))) (LB.T 1 1 fun Xr WG WH _ L Xs=> ?_);have S:=K.C L;have WI:=S.r (k:= .i64) (x:=(i:SC)) Si aL Z Z;rw[Sl] at WI;have WJ:=S.dm bV aL A;have T:=((WU.H i A).C WE).C L;have⟨Xt,W2⟩:=aO ((R.drop (i*5)).take 5);rw[<-W2] at WJ T;refine jG a @c7 (LA.D WH q.n) ((q.C L).o ft 3 6:aD Sf (aS m 1) 23 (ab b.Y 3 6)=some y) o.m S.m WI WJ T.m @lW (LA.iG K WH A) ((sD _ l[i] (Sr _) WA (aS m 1) _ T (WV _ (Sk A))).b ?_);rintro _ Xu ⟨U,rfl,WK,W⟩;have Xv:=W.Y;refine⟨fun _=>LA.ar.R WG (W.q Z),?_⟩;have M:=WK.aG;simp(disch:=omega)only[gC (a:=U.toArray) Si aL b8 cy rfl M (by decide)];refine LB.fD (a:=m.Y) M Z (Sr _) ?_;intro Xw WL W3 Xx W4 W5 W6;have B:ad m.Y m WL:=(L.d W).a W4;have Xy:=B.Y;have X:aE (r y) WL U l[i]:=by
   refine(WK.j (u:=bI m.Y) (aF.f W5 W6) (fun j d e=> ?_)).b (fun j d=> ?_)
   ·have e:some m.Y=some j:=e;injection e with e;omega
   rw[v];exact⟨Z,fun D=>D,fun e=>ag (o.z _ e)⟩
  refine ax a (LB.jE Si Si (.inl ⟨_,rfl⟩) aL pZ b8 rfl (o.C B) W3.c.X M ai X.K Z Z (a:=h.Y) p Z (fun D=>S8 rfl D) (fun j d=>ag (WG j d)) fun n W7 Wy WM P W8=> ?_);have Xz:=P.Y;have WN:=w.C cm B;rw[v] at WN X;have WO:=WN.dO cm M X P W8;rw[show(fun j=>h.Y<=j/\¬(fun _=>False) j/\ak n≠some j)=r n by rw[v]] at WO;refine aq a @c7 (LB.gV nU ai ((q.C B).j P ((fun e=>ag (p _ e)):ak y≠some b.Y)) (b:=3) (c:=6) rfl (a:=[n]) Wy.c.gA rfl aA (by simp[Wy.c.aN]) (fun D=>S8 rfl D) fun WQ W9 WR Wz=> ?_);have Xa:∀j,r n j->ak (bI b.Y)≠some j:=fun j d e=>by
   have e:some b.Y=some j:=e;injection e with e;rw[v] at d;have:=d.1;omega
  refine ax a ?_;have XW:=H.Y;refine aH (l.length-(i+1)) Z ⟨i+1,n,g++U,rfl,Z,Wy.f WR Wz ((fun e=>ag (WM _ e)):ak n≠some b.Y),?_,WM,(W9:ae WQ b.Y [I 6,I 0,av,n,av]),?_,Z,V a⟩
  ·rw[SG,Ss A];exact WO.j cm (aF.f WR Wz:aF (bI b.Y) W7 WQ) Xa
  exact((H.d B).a ((P.C p Z).q Z)).a ⟨Z,fun j d=>Wz j Z⟩
 rintro z f t ⟨rfl,y,g,o,w,p,q,WS,a⟩;have WT:aE (fun j=>h.Y<=j) t [I 6,I 0,av,y,av] (.au 6 0 [] l []):=aE.lZ .al o.c .al trivial (bA.Q p) trivial (w.b cm (fun j d=>by rw[v] at d;exact d.1)) aU.al;refine aq a (ah.L q rfl) (bh aL ai (WC.C WS) rfl rfl rfl WT.K fun XX Xb Xc Xd=> ?_);refine bS a (ah.L Xb rfl) Tryz.results15 ?_;exact ei.u WT (fun j d=>⟨Z,Z⟩) Xc Xd (E.d WS) (Sr _)
end Go.Proofs.YtgpmffbleaphkaaGreat