/-
  The statement ChainBack: any bytes through any links, where the program takes them: what was made decodes to the bytes, its links are they, it may be, and each link's name is among its filters: the law returns true.
  Conditions: none.
-/
import Derived.Test.YtdfjfncifneocaaGreatRows
import Derived.ChangeMaps5
import Derived.Test.YtdfjfncifneocaaGreatBkH
import Derived.Test.YtdfjfncifneocaaGreatChAw
open Nat renaming reduceEqDiff->ab,reduceLT->af,sub_self->cm,le_refl->cp
open _root_ renaming reduceIte->ao,List->bk,eq_true->bn,eq_false->bo,of_decide_eq_true->bs,UInt8->b5,or_false->b7,decide_eq_true->cb,Int->cc,if_neg->cg
open Go.Proofs.Tryz renaming prog->av,underlying22->a6,results8->a9,underlying35->bq,f8->bz,checked->bC,params8->b4,func8->b8
open List renaming not_mem_nil->aR,mem_cons->a7,length_drop->bb,length_map->bg,mem_singleton->bl,mem_map->cd
set_option linter.unusedSimpArgs false
set_option linter.unusedVariables false
set_option maxRecDepth 100000
namespace Go.Proofs.YtdfjfncifneocaaGreat.chainBack
open Go.ChangeShapes Go.WideShapes Go.ChangeAt Go.RowKit Go.Cl Go.Cl.Pr Go.Cl.Ch

theorem afv:oG (gX av df 100000 9 [] ⟨.nil,2⟩)=true:=afu
def Ng (M:bk Lk)(B:bk b5):O:= .mk 8 0 B [] (cV [] (kV M))
theorem PX {M:bk Lk}(hM:∀l∈M,Nx l)(h8:M.length<=8){B:bk b5}(hB:B.length<=4000000):Small (Ng M B):=by
  have hN:=Ic hM
  have h2:=EN hN (by omega)
  have h4:=H7 M
  exact H6 (by omega) (by simp) (fun e h=>by cases h) (by simp;omega) (fun e h=>by cases h) h2
theorem DK:∀n∈v8,aC n:=by unfold aC;decide
theorem lT {l:Lk}(h:Nx l)(p:cc):fS p (mu l.name)/\(mu l.name).kind≠8:=⟨.name _ _ (DK _ h.1),by show¬(5:cc)=8;decide⟩
def aat:bk (bk b5):=[r9,jQ,gO,sd]
theorem eQ {l:Lk}(h:Nx l){p:cc}(h1:1<=p)(h2:p<=28):fS p (eO l)/\(eO l).kind≠8:=by
  by_cases hp:l.p=1
  ·have e:eO l=O.none:=by unfold eO;rw[if_pos hp]
   rw[e];exact⟨.none _,by decide⟩
  ·rw[RK hp]
   obtain⟨a1,a2,a3,a4,a5⟩:=h.2
   refine⟨.xO _ _ _ _ (.inl ⟨rfl,rfl⟩) h1 h2 (by simp) (by simp[uG]) ?_ ?_ ?_,by show¬(7:cc)=8;decide⟩
   ·have k1:∀n∈aat,aC n:=by unfold aC aat;decide
    intro e he
    simp only[uG,a7,aR,b7] at he
    rcases he with rfl|rfl|rfl|rfl<;>exact⟨k1 _ (by simp[aat]),by show¬(2:cc)=8;decide,by show¬(2:cc)=0;decide⟩
   ·intro e he
    simp only[uG,a7,aR,b7] at he
    rcases he with rfl|rfl|rfl|rfl<;>exact .int _ _ (by omega) (by omega)
   ·intro i hi
    have:i=0\/i=1\/i=2:=by simp[uG] at hi;omega
    rcases this with rfl|rfl|rfl<;>rfl
theorem nE {d:bk (bk b5×O)}{B:bk b5}(hB:B.length<=16777216)(hd:d.length<=2)(h:∀e∈d,aC e.1/\e.2.kind≠8/\e.2.kind≠0)(h2:∀e∈d,fS 27 e.2)(hr:∀(h:1<d.length),(Op.bytesLess d[1].1 d[0].1||d[1].1==d[0].1)=false):fS 28 (.mk 8 0 B [] d):=
  .xO _ _ _ _ (.inr rfl) (by omega) (by omega) hB (by omega) h h2 fun i hi=>by
    obtain rfl:i=0:=by omega
    exact hr hi
theorem E6 {l:bk O}(h1:l≠[])(h2:l.length<=8)(h:∀o∈l,fS 26 o/\o.kind≠8):fS 27 (rH l):= .arr _ _ (by omega) (by omega) h1 (by omega) (fun o ho=>(h o ho).2) (fun o ho=>(h o ho).1)
theorem N5 {M:bk Lk}(hM:∀l∈M,Nx l)(h8:M.length<=8){B:bk b5}(hB:B.length<=16777216):fS 28 (Ng M B):=by
  have kF:aC bh:=by unfold aC;decide
  have kP:aC cG:=by unfold aC;decide
  have one:∀v:O,v.kind≠8->v.kind≠0->fS 27 v->fS 28 (.mk 8 0 B [] [(bh,v)]):=fun v h1 h2 h3=>nE hB (by simp) (fun e he=>by rw[bl.1 he];exact⟨kF,h1,h2⟩) (fun e he=>by rw[bl.1 he];exact h3) (fun h=>by simp at h)
  have two:∀u v:O,u.kind≠8->u.kind≠0->fS 27 u->v.kind≠8->v.kind≠0->fS 27 v->fS 28 (.mk 8 0 B [] [(cG,u),(bh,v)]):=fun u v h1 h2 h3 h4 h5 h6=>by
    refine nE hB (by simp) (fun e he=> ?_) (fun e he=> ?_) (fun h=>rfl)
    ·simp only[a7,aR,b7] at he
     rcases he with rfl|rfl
     ·exact⟨kP,h1,h2⟩
     ·exact⟨kF,h4,h5⟩
    ·simp only[a7,aR,b7] at he
     rcases he with rfl|rfl<;>assumption
  unfold Ng
  match M,hM,h8 with
  |[],_,_=>exact nE hB (by simp[cV,kV]) (fun e he=>by cases he) (fun e he=>by cases he) (fun h=>by cases h)
  |[l],hM,h8=>
   have hl:=hM l (List.mem_cons_self ..)
   by_cases hp:l.p=1
   ·have ep:eO l=O.none:=by unfold eO;rw[if_pos hp]
    have e1:cV [] (kV [l])=[(bh,mu l.name)]:=by show cV [] [(bh,mu l.name),(cG,eO l)]=_;rw[ep];rfl
    rw[e1]
    exact one _ (by show¬(5:cc)=8;decide) (by show¬(5:cc)=0;decide) (lT hl _).1
   ·have ep:=RK hp
    have e1:cV [] (kV [l])=[(cG,eO l),(bh,mu l.name)]:=by show cV [] [(bh,mu l.name),(cG,eO l)]=_;rw[ep];rfl
    rw[e1]
    exact two _ _ (eQ hl (p:=27) (by omega) (by omega)).2 (by rw[ep];show¬(7:cc)=0;decide) (eQ hl (by omega) (by omega)).1 (by show¬(5:cc)=8;decide) (by show¬(5:cc)=0;decide) (lT hl _).1
  |x::y::r,hM,h8=>
   have k1:=E6 (l:=dB (x::y::r)) (by simp[dB]) (by simpa [dB] using h8) fun o ho=>by
     obtain⟨l,hl,rfl⟩:=cd.1 ho
     exact lT (hM l hl) _
   have k2:=E6 (l:=gD (x::y::r)) (by simp[gD]) (by simpa [gD] using h8) fun o ho=>by
     obtain⟨l,hl,rfl⟩:=cd.1 ho
     exact eQ (hM l hl) (by omega) (by omega)
   have a8:∀l,(rH l).kind≠8:=fun l=>by show¬(6:cc)=8;decide
   have a0:∀l,(rH l).kind≠0:=fun l=>by show¬(6:cc)=0;decide
   cases ha:wv (x::y::r) with
   |false=>
    have e0:cV [] (kV (x::y::r))=[(bh,rH (dB (x::y::r)))]:=by show cV [] (if wv (x::y::r) then _ else _)=_;rw[ha];rfl
    rw[e0]
    exact one _ (a8 _) (a0 _) k1
   |true=>
    have e0:cV [] (kV (x::y::r))=[(cG,rH (gD (x::y::r))),(bh,rH (dB (x::y::r)))]:=by show cV [] (if wv (x::y::r) then _ else _)=_;rw[ha];rfl
    rw[e0]
    exact two _ _ (a8 _) (a0 _) k2 (a8 _) (a0 _) k1
theorem Ur {L:bk Lk}{b:bk b5}(h:(wx L b).2=0):(∀l∈L.map fx,Nx l)/\L.length<=8/\(cy (L.map fx) b).2=0/\wx L b=(Ng (L.map fx) (cy (L.map fx) b).1,0):=by
  unfold wx at h|-
  split at h
  ·cases h
  split at h
  ·cases h
  split at h
  ·rename_i h3;exact absurd h h3
  ·rename_i h1 h2 h3
   exact⟨Classical.not_not.1 h1,by omega,Classical.not_not.1 h3,by rw[cg h1,cg h2,cg h3];rfl⟩
theorem Q8 (l:Lk):(gn l).p=l.p:=by unfold gn;split<;>simp_all
theorem wP (l:Lk):(fx l).name=l.name:=by unfold fx;split<;>rfl
theorem aaA {l:Lk}(h:1<l.p):(fx l).p=l.p:=by unfold fx;rw[cg (by omega)]
theorem abP {s:aq}{v:Value}{n:Nat}{l:bk Value}(h:aN s 5 v n l){k:Nat}(hk:k<n):au av 58 (bc 5 v k) 1=some (b6 (bc 5 v k) 3)/\au av 56 (b6 (bc 5 v k) 0) 0=some (b6 (bc 5 v k) 0):=by
  obtain⟨i,off,c,e1,_⟩:=h.cells hk
  rw[e1]
  refine⟨?_,?_⟩
  ·unfold au;rw[Tryz.underlying58];simp[b6,I2]
  ·unfold au;rw[Tryz.underlying56];simp[b6,bA]
set_option maxHeartbeats 8000000 in
theorem law (s:aq)(x:Value)(b:bk b5)(y:Value)(L:bk Lk)(hw:WF s)(hk:s.next=2)(hx:aN s 1 x b.length (ofBytes b))(hy:aN s 5 y L.length (L.flatMap wy))(hTd:∀d∈L,PV d):
    Runs av df 8 [x,y] s fun v _=>v= .bool true:=by
  have hy:aN s 5 y L.length (ki L):=hy
  obtain⟨QQ,Wt⟩:∃QQ:Value->aq->Prop,QQ=fun v _=>v= .bool true:=⟨_,rfl⟩
  rw[<-Wt]
  refine Runs.enter 117 b8 rfl rfl rfl rfl ?_
  intro f hn hf
  have h0:f.get 0=x:=hf 0
  have h1:f.get 1=y:=hf 1
  clear hf
  simp only[aj,ak,aa,af,↓ao,hn]
  refine(Runs.closed ab7 afv hk hw).mono ?_
  rintro _ s1 ⟨rfl,an,_⟩
  have nk:=hx.keeps an
  have Qa:=hy.keeps an
  have n1:=an.next
  by_cases c1:((b.length:Nat):cc)>400
  ·simp only[aj,ak,al,oneOf,aa,af,ab,↓ao,undef,hn,h0,nk.bm a6,bn c1,a9]
   rw[Wt]
  simp only[aj,ak,aa,af,ab,↓ao,hn,h0,h1,nk.bm a6,bo c1]
  refine(JY s1 y L Qa hTd).mono ?_
  rintro _ s2 ⟨rfl,t,rfl,ht⟩
  cases t with
  |false=>
   simp only[aj,ak,al,oneOf,af,ab,↓ao,hn,a9]
   rw[Wt]
  |true=>
  have hL:=ht rfl
  have hb:b.length<=400:=by omega
  have UK:=bq
  have UL:=Tryz.underlying31
  simp only[aj,ak,aa,af,ab,↓ao,hn,h0,h1]
  refine(rL s2 y L Qa (by omega)).mono ?_
  rintro z s3 ⟨hz,hzF,iO⟩
  have n3:=iO.next
  simp only[aj,ak,aa,af,ab,↓ao,hn]
  refine(yv s3 x z b L (nk.keeps iO) hz.aG (by omega) (by omega)).mono ?_
  rintro _ s4 ⟨ca,rfl,oa,N3⟩
  have n4:=N3.next
  have la:=oa.len
  have hd6:de.length+1=6:=rfl
  have x0:∀a b,ba (.tuple #[a,b]) 0=some a:=fun _ _=>rfl
  have x1:∀a b,ba (.tuple #[a,b]) 1=some b:=fun _ _=>rfl
  simp only[aj,af,ab,↓ao,hn,x0,x1,zO,wD]
  refine aw ?_
  intro s5 ht5 acY hn5
  simp only[aj,af,ab,↓ao,hn,hd6]
  refine aB iL (by decide) ht5 rfl rfl (by simpa using la) oa.ok ?_
  intro s6 ht6 hn6 hs6
  have ht6:ax s6 s4.next ca:=ht6
  have k46:ar s4.next s4 s6:=acY.trans ⟨by omega,fun j hj=>hs6 j (by omega)⟩
  have k26:ar s2.next s2 s6:=(iO.trans (N3.weaken n3)).trans (k46.weaken (by omega))
  have oa6:=oa.keeps k46
  have n6:=k46.next
  have hy6:=Qa.keeps k26
  have hx6:=nk.keeps k26
  by_cases ce:(wx L b).2=0
  rotate_left
  ·simp only[aj,ak,al,oneOf,af,ab,↓ao,undef,hn,decide_not,decide_eq_false ce,a9]
   rw[Wt]
  obtain⟨dH,h8,hdz,heq⟩:=Ur ce
  obtain⟨M,hM⟩:∃M,M=L.map fx:=⟨_,rfl⟩
  rw[<-hM] at dH hdz heq
  have hMl:M.length=L.length:=by rw[hM,bg]
  obtain⟨B,hB⟩:∃B,B=(cy M b).1:=⟨_,rfl⟩
  have cf:∀j,(cy (M.drop j) b).1.length<=1360000:=fun j=>(M8 (by rw[bb];omega) (by omega)).1
  have Ln:B.length<=1360000:=by rw[hB];exact cf 0
  rw[heq,<-hB] at oa6
  have hM8:M.length<=8:=by omega
  obtain⟨u1,u2⟩:=EW (m:=1048576) (by omega) (b:=b) M (fun l hl=>(dH l hl).1) hdz (fun j=>by have:=cf j;omega) (fun j hj=>by
    have:=(M8 (L:=M.drop (j+1)) (b:=b) (by rw[bb];omega) (by omega)).2 (by rw[bb];omega);omega)
  rw[<-hB] at u1 u2
  have UF:=EU M dH hM8 B
  have UF:gU (Ng M B)=(M.map gn,0):=UF
  have nM:=PX (B:=B) dH hM8 (by omega)
  have ac3:PO (Ng M B) 1048576=(b,0):=(yx dH hM8 B _).trans u1
  simp only[aj,ak,aa,af,ab,↓ao,undef,hn,decide_not,cb ce,ax.gl ht6 la]
  refine(M0 _ s6 ca _ oa6 nM 1048576 (by omega) (by rw[UF];simp;omega) (by rw[UF];exact u2)).mono ?_
  rw[ac3]
  rintro _ s7 ⟨w,rfl,hw⟩
  have k67:=hw.stay
  have n7:=k67.next
  have ht7:=ht6.keeps k67
  simp only[aj,ak,aa,af,ab,↓ao,hn,x0,x1,ax.gl ht7 la]
  refine(MZ _ s7 ca _ (oa6.keeps k67) nM).mono ?_
  rw[UF]
  rintro _ s8 ⟨g,rfl,hg,hgF,k78⟩
  have n8:=k78.next
  have k68:ar s6.next s6 s8:=k67.trans (k78.weaken n7)
  have Jn:=ht6.keeps k68
  have hgs:=hg.aG
  simp only[bg] at hgs
  have hy8:=hy6.keeps k68
  simp only[aj,ak,aa,af,ab,↓ao,hn,h0,x0,x1]
  refine(K6 (lib:=df) rfl s8 w x b b (hw.own.aG.keeps k78) (hx6.keeps k68) (by omega) (by omega)).mono ?_
  rintro _ s8 ⟨rfl,rfl⟩
  have ac9:((M.length:Nat):cc)=(L.length:Nat):=by omega
  simp only[aj,ak,aa,af,ab,↓ao,hn,h1,hgs.bm UL,hy8.bm UK,bn ac9,ax.gl Jn la]
  refine(aag (N5 dH hM8 (by omega)) _ s8 ca (oa6.keeps k68)).mono ?_
  rintro _ s9 ⟨rfl,k89⟩
  have n9:=k89.next
  have k69:ar s6.next s6 s9:=k68.trans (k89.weaken (by omega))
  simp only[aj,ak,af,ab,↓ao,hn]
  obtain⟨K,hK⟩:∃K,K=M.map gn:=⟨_,rfl⟩
  have hKl:K.length=L.length:=by rw[hK,bg];omega
  rw[<-hK,hMl] at hgs
  have o9:=oa6.keeps k69
  have aaF:=hw
  clear aaF
  have ht9:=Jn.keeps k89
  have hy9:=hy8.keeps k89
  have hg9:=hgs.keeps k89
  refine Comes.eZ (fun z f t=>∃i:Nat,z=L.length-i/\i<=L.length/\ar s9.next s9 t/\f.n=117/\f.get 1=y/\f.get 5= .pointer (some ⟨s4.next,0,some 6⟩)/\f.get 9=g/\f.get 11= .int .i64 (i:Nat))
    ⟨0,rfl,by omega,ar.refl _ _,by simp only[ad,ag,↓ao,ab,hn,h1,true_and];rfl⟩ ?_
  clear hn h0 h1 f
  rintro z f t ⟨i,rfl,hi,aE,hn,h1,h5,h9,sq⟩
  have hyt:=hy9.keeps aE
  by_cases bd:i<L.length
  rotate_left
  ·obtain rfl:i=L.length:=by omega
   have d2:¬((L.length:Nat):cc)<((L.length:Nat):cc):=by omega
   simp only[aj,al,oneOf,aa,af,ab,↓ao,hn,h1,sq,hyt.bm UK,bo d2,a9]
   rw[Wt]
  have d2:(i:cc)<(L.length:cc):=by omega
  simp only[aj,aa,af,ab,↓ao,hn,h1,sq,hyt.bm UK,bn d2]
  obtain⟨A,hA⟩:∃A:Nat->Bool,A=fun j=>decide (j<t.next):=⟨_,rfl⟩
  have iU:∀j,A j=true->j<t.next:=by
    intro j h
    rw[hA] at h
    exact bs h
  have N2:∀j,j<t.next->A j=true:=fun j h=>by rw[hA];exact cb h
  refine LB.cX.fi A iU 1 1 (by kernel_rfl) (by kernel_rfl) ?_
  have dC:=ar.spare t 1
  have hnT:(spare t 1).next=t.next+1:=bU _ _
  have hgt:=hg9.keeps aE
  have hy7:=hyt.keeps dC
  have hg7:=hgt.keeps dC
  have ht7:=(ht9.keeps aE).keeps dC
  have lo1:∀k,LA.ej A (some (.pointer (some ⟨s4.next,k,some 6⟩)))=true:=fun k=>LA.cr (A:=A) (i:=s4.next) (N2 _ (ht9.keeps aE).lt)
  have As:=hy7.indexAddr (P:=av) (k:= .i64) (x:=(i:cc)) UK RN (by omega) (by omega)
  have hjx:=hg7.indexAddr (P:=av) (k:= .i64) (x:=(i:cc)) UL dp (by omega) (by omega)
  rw[Int.toNat_natCast] at As hjx
  obtain⟨q0,q1,q2⟩:=ajO hy7 bd
  have e0:=ajH hg7 bd
  obtain⟨e1,e2⟩:=abP hg7 bd
  have adb:i<K.length:=by omega
  obtain⟨l0,-,-,l3,-⟩:=Il (P:=av) tp bu hy7 bd
  obtain⟨m0,-,-,m3,-⟩:=Il (P:=av) tp bu (s:=spare t 1) (v:=g) (L:=K) (by rw[hKl];exact hg7) adb
  have hKi:K[i]=gn (fx L[i]):=by simp only[hK,hM,List.getElem_map]
  have w1:L[i].name=K[i].name:=by rw[hKi,ET,wP]
  have w2:1<L[i].p->K[i].p=L[i].p:=fun h=>by rw[hKi,Q8,aaA h]
  have w3:∃l∈K,l.name∈[L[i].name]:=⟨K[i],List.getElem_mem _,by rw[w1];exact List.mem_singleton_self _⟩
  have lv1:=LA.SY (j:=0) hyt N2 bd
  have lv2:=LA.SY (j:=3) hyt N2 bd
  have lv3:=LA.SY (j:=0) hgt N2 bd
  have lv4:=LA.SY (j:=3) hgt N2 bd
  have zS:bV av 9=some (.string ⟨#[]⟩):=by kernel_rfl
  have o7:=(o9.keeps aE).keeps dC
  have nm:K[i].name=L[i].name:=w1.symm
  rw[nm] at m3
  have bs1:∀u:aq,aO av u 27 1 [(0,.string ⟨L[i].name.toArray⟩)]=aZ u [.string ⟨L[i].name.toArray⟩] 1 1:=fun u=>ZJ Tryz.underlying27 I2 zS rfl ⟨_,rfl⟩ rfl
  have neq:¬L[i].name≠L[i].name:=fun h=>h rfl
  by_cases c2:L[i].p>1
  ·have w4:=w2 c2
   rw[w4] at m0
   simp only[aj,ak,bH,bI,ae,af,ab,↓ao,hn,h1,h5,h9,sq,hyt.self,hgt.self,As,hjx,q0,q1,q2,e0,e1,e2,l0,l3,m0,m3,lv1,lv2,lv3,lv4,lo1,so,bo neq,bn c2,vH,ax.gl ht7 la,o7.self,bs1]
   refine LB.cZ (base:=t.next) (by rfl) (by omega) (cp _) ?_
   intro u t2 hu gz kt nt ot
   have RD:ar t.next t t2:=dC.trans kt
   simp only[aj,ak,bI,cm,aa,af,ab,↓ao,hn]
   refine(iR _ t2 ca (Ng M B) ((o9.keeps aE).keeps RD) nM u [L[i].name] hu.aG (by simp) (by rw[UF];simp;omega)).mono ?_
   rw[UF,<-hK]
   rintro _ t3 ⟨rfl,k3⟩
   refine⟨fun _=>LA.ar.yC iU (k3.weaken RD.next),?_⟩
   simp (disch:=omega) only[aj,bH,bI,af,ab,↓ao,hn,sq,bn w3,aD]
   exact ay (L.length-(i+1)) (by omega) ⟨i+1,rfl,by omega,aE.trans ((RD.trans (k3.weaken RD.next)).weaken aE.next),by simp only[ag,hn],by simp only[ad,↓ao,ab,h1],by simp only[ad,↓ao,ab,h5],by simp only[ad,↓ao,ab,h9],by simp only[ad,↓ao];rfl⟩
  ·skip
   simp only[aj,ak,bH,bI,ae,af,ab,↓ao,undef,hn,h1,h5,h9,sq,hyt.self,hgt.self,As,hjx,q0,q1,q2,e1,l0,l3,m3,lv1,lv2,lv4,lo1,so,bo neq,bo c2,vH,ax.gl ht7 la,o7.self,bs1]
   refine LB.cZ (base:=t.next) (by rfl) (by omega) (cp _) ?_
   intro u t2 hu gz kt nt ot
   have RD:ar t.next t t2:=dC.trans kt
   simp only[aj,ak,bI,cm,aa,af,ab,↓ao,hn]
   refine(iR _ t2 ca (Ng M B) ((o9.keeps aE).keeps RD) nM u [L[i].name] hu.aG (by simp) (by rw[UF];simp;omega)).mono ?_
   rw[UF,<-hK]
   rintro _ t3 ⟨rfl,k3⟩
   refine⟨fun _=>LA.ar.yC iU (k3.weaken RD.next),?_⟩
   simp (disch:=omega) only[aj,bH,bI,af,ab,↓ao,hn,sq,bn w3,aD]
   exact ay (L.length-(i+1)) (by omega) ⟨i+1,rfl,by omega,aE.trans ((RD.trans (k3.weaken RD.next)).weaken aE.next),by simp only[ag,hn],by simp only[ad,↓ao,ab,h1],by simp only[ad,↓ao,ab,h5],by simp only[ad,↓ao,ab,h9],by simp only[ad,↓ao];rfl⟩
theorem own:ownKnob av.godebug=none:=by kernel_rfl
theorem sound:BP av df=true:=by kernel_rfl
theorem laid:laidOutB av=true:=by kernel_rfl
theorem read:∀t∈bz.params.toList,av.readableRec t=true/\t<av.types.size:=by
  have:(bz.params.toList.all fun t=>av.readableRec t&&decide (t<av.types.size))=true:=by kernel_rfl
  intro t ht
  simpa using List.all_eq_true.mp this t ht
theorem abB:av.cellsOf 5=1:=by kernel_rfl
set_option maxRecDepth 100000 in
theorem lifted (os:Os)(started:os.Started)(H:Type)(enc:TypeId×Value->H):
    ReturnsInHanded {} bC os 8 .any (Rows.chainBackSpec.pre6 enc av bz Rows.chainBackRow.domain false) (Rows.chainBackSpec.post enc av bz false true false false):=by
  refine returnsInHanded_of_change (C:=bC) own started (by kernel_rfl) b8
    (ChangeSpec.witness6 (enc:=enc) (C:=bC) false ⟨#[], #[.slice none 0 0,.slice none 0 0],[]⟩ 8 (by kernel_rfl) (by kernel_rfl) (by kernel_rfl) (by kernel_rfl)) ?_
  intro W base args ds gs before IX hW aus _
  obtain⟨p,q,hA,_,_,_,_⟩:=id hW
  have hA:DataW.TrodAll enc av W 0 (fun _=>true) true bz.params.toList args.toList ds p:=hA
  rw[b4] at hA
  obtain⟨v0,v1,d0,d1,p0,p1,rfl,rfl,rfl,h0,h1⟩:=trodAll_two hA
  have hv0:Value.okWide av W .any base 22 v0:=IX 0 _ _ (by rw[b4];rfl) rfl
  have hv1:Value.okWide av W .any base 35 v1:=IX 1 _ _ (by rw[b4];rfl) rfl
  obtain⟨S0,x0,l0,hj0,Bo⟩:=(nN.start W).bytes a6 Tryz.underlying5 abB hv0 h0
  obtain⟨S1,x1,l1,Xs,nk,hz1⟩:=hj0.begun.rows wy PV bq EX (by decide) YG YE abz hv1 h1
  have Cr:=Runs.adT ab7 (ahx _) sound rfl Xs.begun (law S1.s x0 l0 x1 l1 Xs.begun.sr.wf (by rw[Xs.next];rw[hj0.next];rfl) (Bo.keeps Xs.stay) nk hz1) (args' := #[v0,v1]) (eR.cons (hj0.vr.mono Xs.ext) (eR.cons Xs.vr eR.nil))
  refine Cr.mono fun e W' ⟨he,hb⟩=> ?_
  subst he
  exact VF laid read rfl Tryz.underlying4 rfl (fun L hL=>by match L,hL with|[a0,a1],_=>rfl) hW hb

theorem over:Rows.chainBackRow.holds Tryz.pinned (OpenSpec.ofChange Rows.chainBackSpec):=
  OpenClaim.holds_of_wide 8 bz rfl rfl rfl rfl rfl rfl rfl ⟨rfl,rfl,rfl,rfl,rfl⟩ rfl rfl rfl rfl rfl (by kernel_rfl) b8 (by kernel_rfl)
    (bs (by kernel_rfl)) (by unfold Func.isWrapper;first|(rw[if_pos (by decide+kernel)];kernel_rfl)|(rw[cg (by decide+kernel)];exact⟨rfl,rfl⟩))
    (fun os started H enc _=>lifted os started H enc)

theorem proved:Rows.ChainBackSaid:=over
#print axioms proved
end Go.Proofs.YtdfjfncifneocaaGreat.chainBack
