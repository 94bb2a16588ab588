/-
  The statement ChainLinks: any stream that may be: its links, what it decodes to, whether one of some names is among its filters: the program answers as the reference does: the law returns true.
  Conditions: none.
-/
import Derived.Test.YtdfjfncifneocaaGreatRows
import Derived.Test.YtdfjfncifneocaaGreatLrF
import Derived.Test.YtdfjfncifneocaaGreatLrM
open _root_ renaming reduceIte->ab,of_decide_eq_true->aC,eq_false->a8
open Go.Proofs.Tryz renaming prog->af,params3->an,f3->ax,checked->aF,func3->aR,results3->a3
open Nat renaming add_one_sub_one->ao,le_refl->a7
open List renaming all_eq_true->av
open Nat renaming reduceLT->QM,reduceEqDiff->WP
set_option linter.unusedSimpArgs false
set_option linter.unusedVariables false
set_option maxRecDepth 100000
namespace Go.Proofs.YtdfjfncifneocaaGreat.chainLinks
open Go.ChangeShapes Go.WideShapes Go.ChangeAt Go.RowKit Go.Cl Go.Cl.Pr Go.Cl.Ch
theorem Fj:∀(N P:List O) (L:List Lk),fR N P=some L->L.length<=N.length
 |[],_,L,h=>by
  simp only[fR] at h;obtain rfl:=Option.some.inj h;exact a7 _
 |_::_,[],L,h=>by
  simp only[fR] at h;obtain rfl:=Option.some.inj h;simp
 |n::N,p::P,L,h=>by
  simp only[fR] at h;split at h
  ·cases hM:fR N P with
   |none=>rw[hM] at h;simp at h
   |some M=>
    rw[hM] at h;have:=Fj N P M hM;simp only[Option.map_some,Option.some.injEq] at h;rw[<-h];simp;omega
  cases h
theorem Oz (o:O):(df o).1.length<=8:=by
 unfold df;split
 ·simp
 split
 ·simp
 rename_i h2;split
 ·simp
 rename_i L hL;have:=Fj _ _ _ hL;simp only[not_or] at h2;show L.length<=8;omega
set_option maxHeartbeats 16000000 in
theorem law (s:au)(co:List Value)(o:O)(ho:dV (fun _=>True) s co o)(fo:Fit o)(n:Int)(hz:(Lit.int .i64 n).wf=true)(y:Value)(K:List (List UInt8))(hy:aU s 1 y K.length (Cl.strs K))(hkl:∀k∈K,k.length<=140737488351232)(hkb:K.length<=140737488351232):
  Runs af dR 3 [.agg co.toArray,.int .i64 n,y] s fun v _=>v= .bool true:=by
 have hy:aU s 1 y K.length (D9 K):=hy;have iz:=ho.len;obtain⟨QQ,eK⟩:∃QQ:Value->au->Prop,QQ=fun v _=>v= .bool true:=⟨_,rfl⟩
 rw[<-eK];refine Runs.enter 84 aR rfl rfl rfl rfl ?_;intro f hn hf;have h0:f.get 0= .agg co.toArray:=hf 0;have h1:f.get 1= .int .i64 n:=hf 1;have h2:f.get 2=y:=hf 2;clear hf;simp only[aj,QM,↓ab,hn,h0];refine aA ?_;intro s1 eJ aY gG;have eJ:az s1 s.next co:=eJ;have n1:=aY.next;simp only[aj,ak,ad,QM,Nat.reduceAdd,↓ab,hn,iz];refine(Ox s1).mono ?_;rintro _ s2 ⟨rfl,k2⟩;have dK:=eJ.keeps k2;have e2:aw s.next s s2:=aY.trans (k2.weaken n1);have n2:=e2.next;have yes:∀(f:aZ) (t:au),f.n=84->f.get 6= .bool true->L9 af ax.results.toList QQ .ret f t:=by
  intro f t hn h6;simp only[aj,al,oneOf,QM,↓ab,hn,h6,a3];rw[eK]
 simp only[aj,ak,ad,QM,WP,↓ab,hn,az.fi dK iz];refine(YD _ s2 co o (ho.keeps e2) fo).mono ?_;intro v3 s3 Gi;obtain⟨⟨t,rfl⟩,k3⟩:(∃t,v3= .bool t)/\aw s2.next s2 s3:=⟨Gi.1.elim (fun h=>⟨_,h⟩) (fun h=>⟨_,h⟩),Gi.2⟩;have jE:=dK.keeps k3;have e3:aw s.next s s3:=e2.trans (k3.weaken n2);cases t with
 |false=>
  simp only[aj,ak,QM,WP,↓ab,undef,hn];exact yes _ _ (by simp only[ag,hn]) (by simp only[aa,↓ab])
 |true=>
 have n3:=e3.next;simp only[aj,ak,ad,QM,WP,↓ab,hn,az.fi jE iz];refine(Sl rfl 60 (by decide) _ o (a7 _) _ s3 co 8 (ho.keeps e3) fo (by decide) (by decide)).mono ?_;rintro _ s4 ⟨⟨t,rfl,htt⟩,k4⟩;have ly:=jE.keeps k4;have e4:aw s.next s s4:=e3.trans (k4.weaken n3);cases t with
 |false=>
  simp only[aj,ak,QM,WP,↓ab,undef,hn];exact yes _ _ (by simp only[ag,hn]) (by simp only[aa,↓ab])
 |true=>
 obtain⟨iW,hb⟩:=htt rfl;have n4:=e4.next;have US:=Tryz.underlying27;by_cases c20:((K.length:Nat):Int)>20
 ·simp only[aj,ak,ad,QM,WP,↓ab,undef,hn,h2,hy.aQ US,eq_true c20];exact yes _ _ (by simp only[ag,hn]) (by simp only[aa,↓ab])
 by_cases cm:n>65536
 ·simp only[aj,ak,ad,QM,WP,↓ab,hn,h1,h2,hy.aQ US,a8 c20,eq_true cm];exact yes _ _ (by simp only[ag,hn]) (by simp only[aa,↓ab])
 have hL8:=Oz o;have gm:Fits (df o).1 o.bytes n:=Fg (by omega) _ _ (by omega);have hD:(Cd o n).1.length<=65536:=by
  unfold Cd;split
  ·simp
  split
  ·simp
  exact Fh (K:=65536) (by omega) _ _ (by omega)
 simp only[aj,ak,ad,QM,WP,↓ab,hn,h1,h2,hy.aQ US,a8 c20,a8 cm,az.fi ly iz];refine(uR _ s4 co o (ho.keeps e4) iW).mono ?_;obtain⟨R,hR⟩:∃R,R=df o:=⟨_,rfl⟩
 rintro _ s5 ⟨a,rfl,ha,haF,k5⟩;have py:=ly.keeps k5;have e5:aw s.next s s5:=e4.trans (k5.weaken n4);have n5:=e5.next;have x0:∀a b,aH (.tuple #[a,b]) 0=some a:=fun _ _=>rfl
 have x1:∀a b,aH (.tuple #[a,b]) 1=some b:=fun _ _=>rfl
 simp only[aj,ak,ad,QM,WP,↓ab,hn,x0,x1,az.fi py iz];refine(xu _ s5 co o (ho.keeps e5) iW).mono ?_;rintro _ s6 ⟨b,rfl,hbb,M4,k6⟩;have Wh:=py.keeps k6;have e6:aw s.next s s6:=e5.trans (k6.weaken n5);have n6:=e6.next;simp only[aj,ak,ad,QM,WP,↓ab,hn,h1,x0,x1,az.fi Wh iz];refine(zo _ s6 co o (ho.keeps e6) iW n (by omega) (by omega) gm).mono ?_;rintro _ s7 ⟨c,rfl,hc⟩;have k7:=hc.stay;have xO:=Wh.keeps k7;have e7:aw s.next s s7:=e6.trans (k7.weaken n6);have n7:=e7.next;simp only[aj,ak,ad,QM,WP,↓ab,hn,h1,x0,x1,az.fi xO iz];refine(Se _ s7 co o (ho.keeps e7) iW n (by omega) (by omega) gm).mono ?_;rintro _ s8 ⟨d,rfl,hd⟩;have k8:=hd.stay;have xj:=xO.keeps k8;have e8:aw s.next s s8:=e7.trans (k8.weaken n7);have n8:=e8.next;have ha8:=((ha.aL.keeps k6).keeps k7).keeps k8;have OI:=(hbb.aL.keeps k7).keeps k8;have NW:=hc.own.aL.keeps k8;have hd8:=hd.own.aL;simp only[aj,QM,WP,↓ab,hn,x0,x1];obtain⟨A,hA⟩:∃A:Nat->Bool,A=fun j=>decide (j<s8.next):=⟨_,rfl⟩
 have gu:∀j,A j=true->j<s8.next:=by
  intro j h;rw[hA] at h;exact aC h
 refine LB.cN.dx A gu 5 0 (by kernel_rfl) (by kernel_rfl) ?_;have dI:=aw.spare s8 0;have nsp:(spare s8 0).next=s8.next:=bu _ _;have lo:∀k,LA.di A (some (.pointer (some ⟨s.next,k,some 6⟩)))=true:=fun k=>LA.bN (A:=A) (i:=s.next) (by rw[hA];exact decide_eq_true xj.lt)
 have hA9:=ha8.keeps dI;simp only[aj,ak,bg,bn,ao,ad,QM,WP,↓ab,hn,eq_self,hA9.self];refine(LX (spare s8 0) a _ hA9 (by omega)).mono ?_;rintro z t1 ⟨hzO,hzF,q1⟩;have m1:=q1.next;have u1:aw s8.next s8 t1:=dI.trans (q1.weaken (by omega));refine⟨fun _=>LA.aw.qI gu (q1.weaken (by omega)),?_⟩;simp only[↓ab,(OI.keeps u1).self];refine(LY t1 z b _ hzO.aL (OI.keeps u1) (by omega)).mono ?_;rintro _ t1 ⟨rfl,rfl⟩;refine⟨fun _=>LA.aw.qI gu (aw.refl _ _),?_⟩;simp only[aj,ak,bg,bn,ao,ad,QM,WP,↓ab,hn,eq_self,(NW.keeps u1).self,(hd8.keeps u1).self];refine(TI (lib:=dR) rfl t1 c d _ _ (NW.keeps u1) (hd8.keeps u1) (by omega) (by omega)).mono ?_;rintro _ t1 ⟨rfl,rfl⟩;refine⟨fun _=>LA.aw.qI gu (aw.refl _ _),?_⟩;have e9:aw s.next s t1:=e8.trans (u1.weaken n8);have ht9:=xj.keeps u1;simp only[aj,ak,bg,bn,ao,ad,QM,WP,↓ab,hn,h2,lo,az.fi ht9 iz,ho.self,hy.self];refine(Sg _ t1 co o (ho.keeps e9) iW y K (hy.keeps e9) (by omega) (by omega)).mono ?_;rintro _ t2 ⟨rfl,q2⟩;have n9:=e9.next;have e10:aw s.next s t2:=e9.trans (q2.weaken n9);refine⟨fun _=>LA.aw.qI gu (q2.weaken u1.next),?_⟩;simp only[aj,ak,bg,bn,Nat.sub_self,ad,QM,WP,↓ab,hn,h2,lo,az.fi (ht9.keeps q2) iz,ho.self,hy.self];refine(VX _ t2 co o (ho.keeps e10) iW y K (hy.keeps e10) (by omega) (by omega)).mono ?_;rintro _ t3 ⟨rfl,q3⟩;refine⟨fun _=>LA.aw.qI gu (q3.weaken (by have:=u1.next;have:=q2.next;omega)),?_⟩;have eb:∀q:Bool,dB af .eql 4 (.bool q) (.bool q)=some (.bool true):=fun q=>by cases q<;>kernel_rfl
 simp only[aj,al,oneOf,QM,WP,↓ab,aj,bg,bn,oneOf,QM,WP,↓ab,hn,eb,a3];rw[eK]
theorem own:ownKnob af.godebug=none:=by kernel_rfl
theorem sound:CE af dR=true:=by kernel_rfl
theorem laid:laidOutB af=true:=by kernel_rfl
theorem read:∀t∈ax.params.toList,af.readableRec t=true/\t<af.types.size:=by
 have:(ax.params.toList.all fun t=>af.readableRec t&&decide (t<af.types.size))=true:=by kernel_rfl
 intro t ht
 simpa using av.mp this t ht
theorem lifted (os:Os)(started:os.Started)(H:Type)(enc:TypeId×Value->H):
  ReturnsInHanded {} aF os 3 .any (Rows.chainLinksSpec.pre6 enc af ax Rows.chainLinksRow.domain false) (Rows.chainLinksSpec.post enc af ax false true false false):=by
 refine returnsInHanded_of_change_sized (C:=aF) own started (by kernel_rfl) aR
  (ChangeSpec.witness6 (enc:=enc) (C:=aF) false ⟨#[], #[.agg #[.int .i64 0,.int .i64 0,.slice none 0 0,.slice none 0 0,.slice none 0 0],.int .i64 0,.slice none 0 0],[]⟩ 8 (by kernel_rfl) (by kernel_rfl) (by kernel_rfl) (by kernel_rfl)) ?_
 intro W base args ds gs before Nb hW aqK cX _;obtain⟨p,q,hA,_,_,_,_⟩:=id hW;have hA:DataW.TrodAll enc af W 0 (fun _=>true) true ax.params.toList args.toList ds p:=hA;rw[an] at hA;obtain⟨v0,v1,v2,d0,d1,d2,p0,p1,p2,rfl,rfl,rfl,h0,h1,h2⟩:=trodAll_three hA;have Sa:Value.okWide af W .any base 26 v0:=Nb 0 _ _ (by rw[an];rfl) rfl;have YO:Wt af 26 d0:=fun n hn=>by simpa using av.1 cX n (DataW.weights_mem_each (j:=0) (t:=26) (d:=d0) (by rw[an];rfl) rfl n hn)
 have JY:Value.okWide af W .any base 3 v1:=Nb 1 _ _ (by rw[an];rfl) rfl;have Hh:Value.okWide af W .any base 27 v2:=Nb 2 _ _ (by rw[an];rfl) rfl;have JB:Wt af 27 d2:=fun n hn=>by simpa using av.1 cX n (DataW.weights_mem_each (j:=2) (t:=27) (d:=d2) (by rw[an];rfl) rfl n hn)
 obtain⟨S0,c0,o0,Wl,Zh,ho0,hf0⟩:=Xk (nU.start W) Sa h0 YO;obtain⟨n1,rfl,_,_,hz1⟩:=open_int Tryz.underlying3 JY h1;obtain⟨S2,x2,K2,Bg,fe,dA,TG,qP⟩:=TV Wl.begun h2 JB Hh;have Db:=Runs.aau ad1 (ad2 _) sound rfl Bg.begun (law S2.s c0 o0 (ho0.keeps Bg.stay) hf0 n1 hz1 x2 K2 dA TG qP) (args' := #[v0,.int .i64 n1,v2]) (ft.cons (Zh.mono Bg.ext) (ft.cons (.int _ _) (ft.cons fe ft.nil)));refine Db.mono fun e W' ⟨he,hb⟩=> ?_
 subst he;exact Tx laid read rfl Tryz.underlying4 rfl (fun L hL=>by match L,hL with|[a0,a1,a2],_=>rfl) hW hb
theorem over:Rows.chainLinksRow.holds Tryz.pinned (OpenSpec.ofChange Rows.chainLinksSpec):=
 OpenClaim.holds_of_wide 3 ax rfl rfl rfl rfl rfl rfl rfl ⟨rfl,rfl,rfl,rfl,rfl⟩ rfl rfl rfl rfl rfl (by kernel_rfl) aR (by kernel_rfl)
  (aC (by kernel_rfl)) (by unfold Func.isWrapper;first|(rw[if_pos (by decide+kernel)];kernel_rfl)|(rw[if_neg (by decide+kernel)];exact⟨rfl,rfl⟩))
  (fun os started H enc _=>lifted os started H enc)
theorem proved:Rows.ChainLinksSaid:=over
#print axioms proved
end Go.Proofs.YtdfjfncifneocaaGreat.chainLinks