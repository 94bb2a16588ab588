import Derived.Test.YtdfjfncifneocaaGreatChC
open _root_ renaming reduceIte->ab,decide_eq_false->ao,List->av,decide_eq_true->a5,of_decide_eq_true->a8,absurd->bg,eq_false->bk,UInt8->b4,Nat->b5,eq_true->b7,or_false->cp,decide_not->cA,Bool->cB,Int->c6
open Go.Proofs.Tryz renaming prog->af,results32->a6,results49->bo,underlying24->bq,results63->cx,results62->cz
open Nat renaming reduceSub->an,sub_self->a9,reduceAdd->b8,le_refl->c4
open Go renaming Value->a4
open List renaming take_succ_eq_append_getElem->a7,not_mem_nil->bb,mem_cons->bs,length_cons->cf,map_append->cg,take_zero->cv,mem_map->cR
open Nat renaming reduceLT->QS,reduceEqDiff->Qx
set_option maxHeartbeats 8000000
set_option linter.unusedSimpArgs false
set_option linter.unusedVariables false
set_option maxRecDepth 100000
namespace Go.Cl
theorem H6 {k n:c6}{b:av b4}{l d:av (av b4×O)}{L:av O}(hb:b.length<=100000000)(hL:L.length<=100000)(F3:∀x∈L,Small x)(hd:d.length+l.length<=100000)(h1:∀e∈d,e.1.length<=100000/\Small e.2)(h2:∀e∈l,e.1.length<=100000/\Small e.2):Small (.mk k n b L (cV d l)):=by
 have h3:=DQ d l
 have h4:∀e∈cV d l,e.1.length<=100000/\Small e.2:=fun e he=>by
  rcases OL l d he with h|h
  ·exact h1 e h
  ·exact h2 e h
 exact .mk hb hL (by omega) (fun e he=>(h4 e he).1) F3 (fun e he=>(h4 e he).2)
end Go.Cl
namespace Go.Cl.Ch
def rH (l:av O):O:= .mk 6 0 [] l []
def dB (L:av Lk):av O:=L.map fun l=>mu l.name
def gD (L:av Lk):av O:=L.map eO
def wv (L:av Lk):cB:=L.any fun l=>decide (l.p≠1)
def kV (L:av Lk):av (av b4×O):=
 match L with
 |[]=>[]
 |[l]=>[(bh,mu l.name),(cG,eO l)]
 |a::b::r=>if wv (a::b::r) then [(bh,rH (dB (a::b::r))),(cG,rH (gD (a::b::r)))] else [(bh,rH (dB (a::b::r)))]
theorem rI (l:Lk):Small (eO l):=by
 unfold eO
 split
 ·exact Small.none
 ·refine H6 (by simp) (by simp) (fun e h=>by cases h) (by simp[uG]) (fun e h=>by cases h) (fun e he=>⟨?_,EM l e he⟩)
  simp only[uG,bs,bb,cp] at he
  rcases he with rfl|rfl|rfl|rfl<;>simp[r9,jQ,gO,sd]
theorem tV {b:av b4}(h:b.length<=100000):Small (mu b):= .mk (by omega) (by simp) (by simp) (fun e h=>by cases h) (fun e h=>by cases h) (fun e h=>by cases h)
theorem yo {L:av Lk}(h:∀l∈L,l.name.length<=100000):∀o∈dB L,Small o:=by
 intro o ho
 obtain⟨l,hl,rfl⟩:=cR.1 ho
 exact tV (h l hl)
theorem A3 (L:av Lk):∀o∈gD L,Small o:=by
 intro o ho
 obtain⟨l,hl,rfl⟩:=cR.1 ho
 exact rI l
theorem H7 (L:av Lk):(kV L).length<=2:=by
 unfold kV
 split
 ·simp
 ·simp
 ·split<;>simp
theorem EN {L:av Lk}(h:∀l∈L,l.name.length<=100000)(hL:L.length<=100000):∀e∈kV L,e.1.length<=100000/\Small e.2:=by
 have sAn:Small (rH (dB L)):= .mk (by simp) (by simp[dB];omega) (by simp) (fun e h=>by cases h) (yo h) (fun e h=>by cases h)
 have sAp:Small (rH (gD L)):= .mk (by simp) (by simp[gD];omega) (by simp) (fun e h=>by cases h) (A3 L) (fun e h=>by cases h)
 intro e he
 unfold kV at he
 split at he
 ·cases he
 ·simp only[bs,bb,cp] at he
  rcases he with rfl|rfl
  ·exact⟨by simp[bh],tV (h _ (by simp))⟩
  ·exact⟨by simp[cG],rI _⟩
 ·split at he
  ·simp only[bs,bb,cp] at he
   rcases he with rfl|rfl
   ·exact⟨by simp[bh],sAn⟩
   ·exact⟨by simp[cG],sAp⟩
  ·simp only[bs,bb,cp] at he
   subst he
   exact⟨by simp[bh],sAn⟩
theorem MW {L:av Lk}(h:∀l∈L,l.name.length<=100000)(hL:L.length<=100000):∀e∈kV L,Small e.2:=fun e he=>(EN h hL e he).2
end Go.Cl.Ch
namespace Go.Proofs.YtdfjfncifneocaaGreat
open Go.Cl Go.Cl.Pr Go.Cl.Ch
def acR (s:aq)(D:av (av b4×O))(v:a4)(s' :aq):Prop:=∃lx,aN s' 6 v D.length lx/\aU dz 6 (fun j=>s.next<=j) s' D lx/\ar s.next s s'
def rJ (b:b5)(X:b5->Prop)(y z:a4)(j:b5):Prop:=b<=j/\¬(X j\/aI z=some j)/\aI y≠some j
theorem rJ.swap {b:b5}{X:b5->Prop}{y z:a4}{j:b5}(h:rJ b X y z j):rJ b X z y j:=⟨h.1,fun k=>k.elim (fun k=>h.2.1 (.inl k)) h.2.2,fun k=>h.2.1 (.inr k)⟩
theorem rJ.grow {b:b5}{X:b5->Prop}{y y' z:a4}{T T' :aq}{D:av O}{lc:av a4}(h:aU dy 5 (rJ b X y z) T D lc){o:O}{cs:av a4}(hc:cs.length=5)(ho:dy (rJ b X y z) T cs o)(ht:bt y T T')(ra:aI y' =aI y\/∃i,aI y' =some i/\T.next<=i):aU dy 5 (rJ b X y' z) T' (D++[o]) (lc++cs):=
 aU.grow (X:=fun j=>X j\/aI z=some j) cK h hc ho ht ra
theorem rJ.other {b:b5}{X:b5->Prop}{y y' z:a4}{T T' :aq}{D:av O}{lc:av a4}(h:aU dy 5 (rJ b X y z) T D lc)(ht:bt y T T')(ra:aI y' =aI y\/∃i,aI y' =some i/\T.next<=i):aU dy 5 (rJ b X y' z) T' D lc:=by
 refine aU.mono cK (aU.turns cK (aU.below cK h) ht (fun j hj=>hj.1.2.2)) (fun j hj=>⟨hj.1.1,hj.1.2.1,fun e=> ?_⟩)
 rcases ra with h1|⟨i,h1,h2⟩
 ·exact hj.1.2.2 (by rw[<-h1];exact e)
 ·rw[h1] at e;injection e with e;have:=hj.2;omega
theorem rJ.RG {b:b5}{X:b5->Prop}{y z:a4}{T:aq}{D:av O}{lc:av a4}(h:aU dy 5 (rJ b X y z) T D lc):aU dy 5 (rJ b X z y) T D lc:=h.mono cK (fun _ h=>h.swap)
theorem rJ.acS {b n:b5}{y z:a4}{T:aq}{D:av O}{lc:av a4}(h:aU dy 5 (rJ b (fun _=>False) y z) T D lc)(hn:T.next<=n):aU dy 5 (rJ b (fun j=>j=n) y z) T D lc:=
 (h.below cK).mono cK (fun j hj=>⟨hj.1.1,fun k=>k.elim (fun k=>by have:=hj.2;omega) (fun k=>hj.1.2.1 (.inr k)),hj.1.2.2⟩)
theorem rJ.put {b n:b5}{y z:a4}{T T' :aq}{D:av O}{lc:av a4}(h:aU dy 5 (rJ b (fun j=>j=n) y z) T D lc)(h1:T'.next=T.next)(h2:∀j,j≠n->T'.heap.get j=T.heap.get j):aU dy 5 (rJ b (fun _=>False) y z) T' D lc:=
 (aU.turns cK (u:= .pointer (some ⟨n,0,none⟩)) h (bt.aK h1 h2) (fun j hj e=>by
  have e:some n=some j:=e
  injection e with e;exact hj.2.1 (.inl e.symm))).mono cK (fun j hj=>⟨hj.1,fun k=>k.elim (fun k=>k) (fun k=>hj.2.1 (.inr k)),hj.2.2⟩)
theorem Ge (s:aq)(x:a4)(L:av Lk)(hx:aN s 5 x L.length (ki L))(hL:L.length<=1000)(hN:∀l∈L,l.name.length<=100000):Runs af df 49 [x] s (acR s (kV L)):=by
 obtain⟨QQ,fw⟩:∃QQ:a4->aq->Prop,QQ=acR s (kV L):=⟨_,rfl⟩
 rw[<-fw]
 refine Runs.enter 63 Tryz.func49 rfl rfl rfl rfl ?_
 intro f hn hf
 have h0:f.get 0=x:=hf 0
 clear hf
 have UK:=Tryz.underlying31
 have UO:=Tryz.underlying23
 simp only[aj,aa,QS,Qx,↓ab,hn,h0,hx.bm UK]
 refine Comes.bQ (fun q f t=>∃(i:b5) (y z:a4) (LC MC:av a4),q=L.length-i/\i<=L.length/\Own t 5 y i LC/\Own t 5 z i MC/\aU dy 5 (rJ s.next (fun _=>False) y z) t (dB (L.take i)) LC/\aU dy 5 (rJ s.next (fun _=>False) y z) t (gD (L.take i)) MC/\aF s.next y/\aF s.next z/\(∀j,aI y=some j->aI z≠some j)/\ar s.next s t/\f.n=63/\f.get 0=x/\f.get 3=y/\f.get 4=z/\f.get 5= .bool (wv (L.take i))/\f.get 8=x/\f.get 9= .int .i64 (L.length:b5)/\f.get 10= .int .i64 (i:b5))
  (fun q f t=>q= .exit 0/\∃(y z:a4) (LC MC:av a4),Own t 5 y L.length LC/\Own t 5 z L.length MC/\aU dy 5 (rJ s.next (fun _=>False) y z) t (dB L) LC/\aU dy 5 (rJ s.next (fun _=>False) y z) t (gD L) MC/\aF s.next y/\aF s.next z/\ar s.next s t/\f.n=63/\f.get 0=x/\f.get 3=y/\f.get 4=z/\f.get 5= .bool (wv L))
  ⟨0,.slice none 0 0,.slice none 0 0,[],[],rfl,by omega,.nil,.nil,by rw[cv];exact aU.nil,by rw[cv];exact aU.nil,aF.nil _,aF.nil _,(fun j h=>by cases h),ar.refl _ _,by simp only[ag,hn],by simp only[ad,↓ab,Qx,h0],by simp only[ad,↓ab,Qx],by simp only[ad,↓ab,Qx],by simp only[ad,↓ab,Qx];rfl,by simp only[ad,↓ab,Qx,true_and];rfl⟩ ?_ ?_
 ·clear hn h0 f
  rintro Q hQ q f s6 ⟨i,y,z,LC,MC,rfl,hi,hy,hz,hR,hM,kN,hzF,hyz,dY,hn,h0,h3,h4,h5,h8,h9,eX⟩
  have n6:=dY.next
  have WE:=hx.keeps dY
  by_cases bd:i<L.length
  rotate_left
  ·obtain rfl:i=L.length:=by omega
   rw[List.take_length] at hR hM h5
   have d1:¬((L.length:b5):c6)<((L.length:b5):c6):=by omega
   simp only[aj,ak,QS,↓ab,hn,h9,eX,bk d1]
   exact hQ _ _ _ ⟨rfl,y,z,LC,MC,hy,hz,hR,hM,kN,hzF,dY,by simp only[ad,ag,↓ab,Qx,hn,h0,h3,h4,h5,and_self]⟩
  have d1:(i:c6)<(L.length:c6):=by omega
  have gB:=WE.indexAddr (P:=af) (k:= .i64) (x:=(i:c6)) UK dp (by omega) (by omega)
  rw[Int.toNat_natCast] at gB
  have fz:=WE.fJ (P:=af) mi dp bd
  rw[tH bd] at fz
  obtain⟨l,hl⟩:∃l,l=L[i]:=⟨_,rfl⟩
  rw[<-hl] at fz
  have hlN:l.name.length<=100000:=hN l (by rw[hl];exact List.getElem_mem bd)
  have gY:bZ (fE l) (fE l)=true:=by simp[bZ,fp,cN,Lk.cells]
  have MX:bV af 58=some (fE ⟨0,0,0,[],0⟩):=by kernel_rfl
  have yp:bN (fE ⟨0,0,0,[],0⟩)=true:=by kernel_rfl
  simp only[aj,ak,QS,Qx,↓ab,hn,h8,h9,eX,b7 d1,gB,fz,MX,yp]
  refine aw ?_
  intro s7 uD jX rp
  have hd:∀l:Lk,l.cells.length+1=6:=fun _=>rfl
  simp only[aj,QS,Qx,↓ab,hn,hd]
  refine aB dp (by decide) uD rfl rfl rfl rfl ?_
  intro s8 vd WG Jj
  have vd:ax s8 s6.next l.cells:=vd
  have iY:ar s6.next s6 s8:=jX.trans ⟨by omega,fun j hj=>Jj j (by omega)⟩
  have n8:=iY.next
  have Iv:=hy.iD
  have oK:=hz.iD
  have hy:=hy.keeps iY
  have hz:=hz.keeps iY
  have hR:=hR.keeps cK iY
  have hM:=hM.keeps cK iY
  simp only[aj]
  obtain⟨A,hA⟩:∃A:b5->cB,A=fun j=>decide (j<s8.next/\aI y≠some j):=⟨_,rfl⟩
  have iU:∀j,A j=true->j<s8.next:=by
   intro j h
   rw[hA] at h
   exact(a8 h).1
  have hA6:A s6.next=true:=by rw[hA];exact a5 ⟨by omega,fun e=>by have:=Iv _ e;omega⟩
  have hAy:∀j,aI y=some j->A j=false:=fun j e=>by rw[hA];exact ao (fun h=>h.2 e)
  refine LB.cX.fi A iU 2 2 (by kernel_rfl) (by kernel_rfl) ?_
  have dC:=ar.spare s8 2
  have UD:(spare s8 2).next=s8.next+2:=bU _ _
  have oI:∀k,LA.ej A (some (.pointer (some ⟨s6.next,k,some 6⟩)))=true:=fun k=>LA.cr (A:=A) (i:=s6.next) hA6
  have l1:aJ af (spare s8 2) 9 (.pointer (some ⟨s6.next,3,some 6⟩))=some (.string ⟨l.name.toArray⟩):=(vd.keeps dC).load tp (off:=3) (c:=6) rfl (by simp[Lk.cells])
  simp only[aj,ak,bH,bI,Nat.add_one_sub_one,aa,ae,QS,Qx,↓ab,hn,h3,zu,oI,l1,hy.self]
  refine(WZ (lib:=df) rfl (spare s8 2) l.name (by omega)).mono ?_
  rintro _ a ⟨ca,rfl,oa,ka⟩
  have ma:=ka.next
  refine⟨fun _=>LA.ar.yC iU (ka.weaken (by omega)),?_⟩
  have la:=oa.len
  try simp only[gi (cs:=ca.toArray) UO iL zO wD rfl la (by decide)]
  refine LB.cZ (base:=s8.next) la (by omega) (c4 _) ?_
  intro u b hu gz kb nb ob
  have k8b:ar s8.next s8 b:=(dC.trans (ka.weaken (by omega))).trans kb
  have mb:=k8b.next
  obtain⟨E8,hE8⟩:∃E8:b5->Prop,E8=fun j=>j=s8.next+1:=⟨_,rfl⟩
  have hR:=rJ.acS hR (n:=s8.next+1) (by omega)
  have hM:=rJ.acS hM (n:=s8.next+1) (by omega)
  rw[<-hE8] at hR hM
  have Y7:dy (rJ s.next E8 y z) b ca (mu l.name):=((oa.turns (u:= .pointer (some ⟨s8.next,0,none⟩)) (bt.aK nb ob) (fun j hj e=>by
   have e:some s8.next=some j:=e
   injection e with e;omega)).mono (fun j hj=>⟨by omega,fun e=>e.elim (fun e=>by rw[hE8] at e;omega) (fun e=>by have:=oK _ e;omega),fun e=>by have:=Iv _ e;omega⟩))
  simp only[aj,bI,aa,QS,Qx,↓ab,hn]
  refine LB.iT UO UO (.inl ⟨_,rfl⟩) iL byO zO rfl (hy.keeps k8b) hu.aG.src la (by decide) Y7.ok (by omega) (by omega) (base:=s.next) kN (by omega) (fun _=>hAy) (fun j hj=>by have:=iU j hj;omega) ?_
  intro y' c hy' ajo EY ra
  have mc:=EY.next
  have hR' :=rJ.grow (hR.keeps cK k8b) la Y7 EY ra
  have hM' :=rJ.other (hM.keeps cK k8b) EY ra
  have It:∀j,aI y' =some j->aI y=some j\/b.next<=j:=fun j e=>by
   rcases ra with h|⟨k,h,h2⟩
   ·left;rw[<-h];exact e
   ·right;rw[h] at e;injection e with e;omega
  have vx:Own c 5 z i MC:=(hz.keeps k8b).turns EY (fun j e e2=>hyz j e2 e)
  have ajp:∀j,aI y' =some j->aI z≠some j:=fun j e e2=>by
   rcases It j e with h|h
   ·exact hyz j h e2
   ·have:=oK j e2;omega
  have SC:=(vd.keeps k8b).turns EY (fun e=>by have:=Iv _ e;omega)
  have la2:aJ af c 58 (.pointer (some ⟨s6.next,0,some 6⟩))=some (fE l):=ax.bF (P:=af) (cs:=l.cells) mi dp SC (c:=6) rfl
  simp only[aj,ak,bH,bI,a9,an,aa,ae,QS,Qx,↓ab,hn,h4,oI,la2,gY,hz.self]
  refine(Ud c l).mono ?_
  rintro _ d ⟨cd,rfl,od,kd⟩
  have md:=kd.next
  have ld:=od.len
  refine⟨fun h=>bg h (fun h=>h),?_⟩
  try simp only[gi (cs:=cd.toArray) UO iL zO wD rfl ld (by decide)]
  refine LB.cZ (base:=s8.next) ld (by omega) (by omega) ?_
  intro u2 e J4 qN ke ne oe
  have iu:=rJ.put (by rw[hE8] at hR';exact hR'.keeps cK kd) ne oe
  have hM2:=rJ.put (by rw[hE8] at hM';exact hM'.keeps cK kd) ne oe
  have cH:∀w,(∀j,aI w=some j->aI y=some j\/aI z=some j\/b.next<=j)->aI w≠some (s8.next+1):=fun w h q=>by
   rcases h _ q with h|h|h
   ·have:=Iv _ h;omega
   ·have:=oK _ h;omega
   ·omega
  have wQ:Own e 5 y' (i+1) (LC++ca):=(hy'.keeps kd).aK ne oe (cH _ (fun j q=>(It j q).imp id .inr))
  have Uw:Own e 5 z i MC:=(vx.keeps kd).aK ne oe (cH _ (fun j q=> .inr (.inl q)))
  have od2:dy (rJ s.next (fun _=>False) z y') e cd (eO l):=((od.turns (u:= .pointer (some ⟨s8.next+1,0,none⟩)) (bt.aK ne oe) (fun j hj q=>by
   have q:some (s8.next+1)=some j:=q
   injection q with q;omega)).mono (fun j hj=>⟨by omega,fun q=>q.elim id (fun q=>by have:=hy'.iD j q;omega),fun q=>by have:=oK _ q;omega⟩))
  simp only[aj,bI,aa,QS,Qx,↓ab,hn]
  refine LB.iT UO UO (.inl ⟨_,rfl⟩) iL byO zO rfl Uw J4.aG.src ld (by decide) od2.ok (by omega) (by omega) (base:=s.next) hzF (by omega) (fun h=>bg rfl h) (fun j hj=>by have:=iU j hj;omega) ?_
  intro z' g hz3 ajr htg ae8
  have hM3:=rJ.RG (rJ.grow (rJ.RG hM2) ld od2 htg ae8)
  have AQ:=rJ.RG (rJ.other (rJ.RG iu) htg ae8)
  have mg:=htg.next
  have ZS:Own g 5 y' (i+1) (LC++ca):=wQ.turns htg (fun j q=>ajp j q)
  have ajs:∀j,aI y' =some j->aI z' ≠some j:=fun j q q2=>by
   rcases ae8 with h|⟨k,h,h2⟩
   ·exact ajp j q (by rw[<-h];exact q2)
   ·rw[h] at q2;injection q2 with q2;have:=wQ.iD j q;omega
  have aoh:ax g s6.next l.cells:=((SC.keeps kd).aK ne oe (by omega)).turns htg (fun q=>by have:=oK _ q;omega)
  have k6g:ar s.next s g:=((((dY.trans (iY.weaken n6)).trans (k8b.weaken (by omega))).trans ((EY.keeps kN (by omega)).weaken (by omega))).trans (kd.weaken (by omega))).trans ((show ar s.next d e from⟨by omega,fun j hj=>oe j (by omega)⟩).trans (htg.keeps hzF (by omega)))
  have l7:aJ af g 3 (.pointer (some ⟨s6.next,0,some 6⟩))=some (.int .i64 l.p):=aoh.load bu (off:=0) (c:=6) rfl (by simp[Lk.cells])
  have ajt:wv (L.take (i+1))=(wv (L.take i)||decide (l.p≠1)):=by
   unfold wv
   rw[a7 bd,List.any_append,<-hl];simp
  have hnm:dB (L.take (i+1))=dB (L.take i)++[mu l.name]:=by
   unfold dB;rw[a7 bd,cg,<-hl];rfl
  have hpm:gD (L.take (i+1))=gD (L.take i)++[eO l]:=by
   unfold gD;rw[a7 bd,cg,<-hl];rfl
  rw[<-hnm] at AQ
  rw[<-hpm] at hM3
  cases ha:wv (L.take i) with
  |true=>
   rw[ha] at h5
   simp(disch:=omega)only[aj,ak,bH,bI,an,QS,Qx,↓ab,undef,hn,h5,eX,aD,ZS.self,hz3.self]
   refine ay (L.length-(i+1)) (by omega) ⟨i+1,y',z',LC++ca,MC++cd,rfl,by omega,ZS,hz3,AQ,hM3,ajo,ajr,ajs,k6g,by simp only[ag,hn],by simp only[ad,↓ab,Qx,h0],by simp only[ad,↓ab,Qx],by simp only[ad,↓ab,Qx],by simp only[ad,↓ab,Qx,ajt,ha,Bool.true_or],by simp only[ad,↓ab,Qx,h8],by simp only[ad,↓ab,Qx,h9],by simp only[ad,↓ab];rfl⟩
  |false=>
   rw[ha] at h5
   simp(disch:=omega)only[aj,ak,bH,bI,an,QS,Qx,↓ab,hn,h5,eX,tJ,mZ,l7,aD,ZS.self,hz3.self]
   refine ay (L.length-(i+1)) (by omega) ⟨i+1,y',z',LC++ca,MC++cd,rfl,by omega,ZS,hz3,AQ,hM3,ajo,ajr,ajs,k6g,by simp only[ag,hn],by simp only[ad,↓ab,Qx,h0],by simp only[ad,↓ab,Qx],by simp only[ad,↓ab,Qx],by simp only[ad,↓ab,Qx,ajt,ha,Bool.false_or],by simp only[ad,↓ab,Qx,h8],by simp only[ad,↓ab,Qx,h9],by simp only[ad,↓ab];rfl⟩
 clear hn h0 f
 rintro _ f t ⟨rfl,y,z,LC,MC,hy,hz,hR,hM,kN,hzF,aE,hn,h0,h3,h4,h5⟩
 have AA:=hx.keeps aE
 have nt:=aE.next
 have hNs:(dB L).length=L.length:=by simp[dB]
 have hPs:(gD L).length=L.length:=by simp[gD]
 by_cases c0:L.length=0
 ·have e0:L=[]:=List.eq_nil_of_length_eq_zero c0
  subst e0
  have d0:(((([]:av Lk).length:b5)):c6)=0:=rfl
  simp only[aj,al,oneOf,aa,QS,↓ab,hn,h0,AA.bm UK,b7 d0,bo]
  rw[fw]
  exact⟨[],.nil,aU.nil,aE⟩
 have d0:¬((L.length:b5):c6)=0:=by omega
 by_cases c1:L.length=1
 ·obtain⟨l,rfl⟩:∃l,L=[l]:=List.length_eq_one_iff.1 c1
  have d1:((([l].length:b5)):c6)=1:=rfl
  simp only[aj,aa,QS,Qx,↓ab,hn,h0,AA.bm UK,bk d0,b7 d1]
  obtain⟨A,hA⟩:∃A:b5->cB,A=fun j=>decide (j<t.next):=⟨_,rfl⟩
  have iU:∀j,A j=true->j<t.next:=by
   intro j h
   rw[hA] at h
   exact a8 h
  have vM:∀j,j<t.next->A j=true:=fun j h=>by rw[hA];exact a5 h
  refine LB.cX.fi A iU 1 1 (by kernel_rfl) (by kernel_rfl) ?_
  have dC:=ar.spare t 1
  have UD:(spare t 1).next=t.next+1:=bU _ _
  have NJ:=(hy.keeps dC).aG
  have Nj:=(hz.keeps dC).aG
  have ix:∀{v:a4} {l:av a4} {u:aq},aN u 5 v 1 l->bT af 23 v (.int .i64 0)=some (bc 5 v 0):=fun {v l u} h=>h.indexAddr (P:=af) (k:= .i64) (x:=0) UO iL (by decide) (by decide)
  have rn:=hR.row 0 (by simp[dB])
  have rm:=hM.row 0 (by simp[gD])
  have ldy:=NJ.fJ (P:=af) Hv iL (k:=0) (by simp)
  have ldz:∀u,ar t.next t u->aJ af u 26 (bc 5 z 0)=some (.agg ((MC.drop (0*5)).take 5).toArray):=fun u h=>(hz.keeps h).aG.fJ (P:=af) Hv iL (k:=0) (by simp)
  have rn:dy (rJ s.next (fun _=>False) y z) t ((LC.drop (0*5)).take 5) (mu l.name):=rn
  have rm:dy (rJ s.next (fun _=>False) y z) t ((MC.drop (0*5)).take 5) (eO l):=rm
  obtain⟨cn,S5⟩:∃cn,cn=(LC.drop (0*5)).take 5:=⟨_,rfl⟩
  obtain⟨cm,hcm⟩:∃cm,cm=(MC.drop (0*5)).take 5:=⟨_,rfl⟩
  rw[<-S5] at rn ldy
  rw[<-hcm] at rm ldz
  have hlN:=hN l (by simp)
  have hle:∀{v:a4} {l:av a4},aN t 5 v 1 l->LA.ej A (some (bc 5 v 0))=true:=fun {v l} h=>LA.m9 h vM (by decide)
  have aju:=hle hy.aG
  have ajv:=hle hz.aG
  simp only[aj,ak,bH,bI,a9,aa,QS,Qx,↓ab,hn,h3,h4,hy.self,hz.self,ix NJ,ix Nj,aju,ldy,rn.self]
  refine(jD (lib:=df) rfl rfl rfl _ (spare t 1) bh cn _ (rn.keeps dC) (tV hlN)).mono ?_
  rintro _ a ⟨ca,rfl,oa,ka⟩
  have ma:=ka.next
  have la:=oa.len
  have kta:ar t.next t a:=dC.trans (ka.weaken (by omega))
  refine⟨fun _=>LA.ar.yC iU (ka.weaken (by omega)),?_⟩
  simp only[aj,ak,bH,bI,an,aa,ae,QS,Qx,↓ab,hn,ajv,ldz _ kta,rm.self]
  refine(jD (lib:=df) rfl rfl rfl _ a cG cm _ (rm.keeps kta) (rI l)).mono ?_
  rintro _ b ⟨cb,rfl,ob,kb⟩
  have mb:=kb.next
  have lb:=ob.len
  refine⟨fun h=>bg h (fun h=>h),?_⟩
  have sE:∀(k:av b4) (cs:av a4),cs.length=5->(Value.string ⟨k.toArray⟩::cs).length=6:=fun k cs h=>by rw[cf,h]
  try simp only[ak,H5 (a:=(.string ⟨bh.toArray⟩::ca).toArray) (b:=(.string ⟨cG.toArray⟩::cb).toArray) bq qq zE Td rfl (sE bh ca la) (sE cG cb lb) (by decide)]
  refine LB.cZ (base:=t.next) (by simp[la,lb]) (by omega) (c4 _) ?_
  intro u c hu gz kc nc oc
  have ktc:ar t.next t c:=(kta.trans (kb.weaken (by omega))).trans kc
  have put:∀(k:av b4) (q:av a4) (o:O) (w:b5) (v:aq),dy (fun j=>w<=j) v q o->t.next+1<=w->ar v.next v b->k.length<=9223372036854775807->dz (fun j=>s.next<=j) c (.string ⟨k.toArray⟩::q) (k,o):=fun k q o w v ho hb hu hk=>⟨q,rfl,((ho.keeps hu).turns (u:= .pointer (some ⟨t.next,0,none⟩)) (bt.aK nc oc) (fun j hj e=>by
   have e:some t.next=some j:=e
   injection e with e;omega)).mono (fun j hj=>by omega),hk⟩
  have rows:=aU.two (F:=fun j=>s.next<=j) (s:=c) (sE bh ca la) (put bh ca _ _ _ oa (by omega) kb (by decide)) (sE cG cb lb) (put cG cb _ _ _ ob (by omega) (ar.refl _ _) (by decide))
  simp only[aj,al,oneOf,QS,↓ab,aj,bH,bI,oneOf,QS,↓ab,hn,hu.self,bo]
  rw[fw]
  exact⟨_,hu.aG,rows,aE.trans (ktc.weaken nt)⟩
 have d1:¬((L.length:b5):c6)=1:=by omega
 obtain⟨l1,l2,r,hLr⟩:∃l1 l2 r,L=l1::l2::r:=by
  cases L with
  |nil=>exact bg rfl c0
  |cons a L=>cases L with
   |nil=>exact bg rfl c1
   |cons b L=>exact⟨a,b,L,rfl⟩
 have eE:kV L=if wv L then [(bh,rH (dB L)),(cG,rH (gD L))] else [(bh,rH (dB L))]:=by rw[hLr];rfl
 have sN:∀o∈dB L,Small o:=yo hN
 have sP:∀o∈gD L,Small o:=A3 L
 have sAn:Small (rH (dB L)):= .mk (by simp) (by omega) (by simp) (fun e h=>by cases h) sN (fun e h=>by cases h)
 have sAp:Small (rH (gD L)):= .mk (by simp) (by omega) (by simp) (fun e h=>by cases h) sP (fun e h=>by cases h)
 have sE:∀(k:av b4) (cs:av a4),cs.length=5->(Value.string ⟨k.toArray⟩::cs).length=6:=fun k cs h=>by rw[cf,h]
 have toE:∀(k:av b4) (q:av a4) (o:O) (w:b5) (v c:aq),dy (fun j=>w<=j) v q o->s.next<=w->ar v.next v c->k.length<=9223372036854775807->dz (fun j=>s.next<=j) c (.string ⟨k.toArray⟩::q) (k,o):=fun k q o w v c ho hb hu hk=>⟨q,rfl,(ho.keeps hu).mono (fun j hj=>by omega),hk⟩
 cases ha:wv L with
 |true=>
  rw[ha] at h5
  simp only[aj,ak,aa,QS,Qx,↓ab,hn,h0,h3,h5,AA.bm UK,bk d0,bk d1]
  refine(Jq (lib:=df) rfl rfl rfl _ t y (dB L) LC (by rw[hNs];exact hy.aG) hR (by omega) sN).mono ?_
  rintro _ a ⟨ca,rfl,oa,ka⟩
  have ma:=ka.next
  simp only[aj,ak,aa,QS,↓ab,hn]
  refine(jD (lib:=df) rfl rfl rfl _ a bh ca _ oa sAn).mono ?_
  rintro _ b ⟨cb,rfl,ob,kb⟩
  have mb:=kb.next
  have lb:=ob.len
  have ktb:ar t.next t b:=ka.trans (kb.weaken (by omega))
  simp only[aj,ak,aa,QS,Qx,↓ab,hn,h4]
  refine(Jq (lib:=df) rfl rfl rfl _ b z (gD L) MC (by rw[hPs];exact(hz.keeps ktb).aG) (hM.keeps cK ktb) (by omega) sP).mono ?_
  rintro _ c ⟨cc,rfl,oc,kc⟩
  have mc:=kc.next
  simp only[aj,ak,aa,QS,↓ab,hn]
  refine(jD (lib:=df) rfl rfl rfl _ c cG cc _ oc sAp).mono ?_
  rintro _ d ⟨cd,rfl,od,kd⟩
  have md:=kd.next
  have ld:=od.len
  simp only[aj,ak,ae,QS,Qx,↓ab,hn,H5 (a:=(.string ⟨bh.toArray⟩::cb).toArray) (b:=(.string ⟨cG.toArray⟩::cd).toArray) bq qq zE Td rfl (sE bh cb lb) (sE cG cd ld) (by decide)]
  refine aQ (by simp[lb,ld]) ?_
  intro u e hu hF ke
  simp only[aj,al,oneOf,QS,↓ab,hn,bo]
  rw[fw,eE,ha]
  have rows:=aU.two (F:=fun j=>s.next<=j) (s:=e) (sE bh cb lb) (toE bh cb _ _ _ _ ob (by omega) ((kc.trans (kd.weaken (by omega))).trans (ke.weaken (by omega))) (by decide)) (sE cG cd ld) (toE cG cd _ _ _ _ od (by omega) ke (by decide))
  exact⟨_,hu.aG,rows,aE.trans ((((ktb.trans (kc.weaken (by omega))).trans (kd.weaken (by omega))).trans (ke.weaken (by omega))).weaken nt)⟩
 |false=>
  rw[ha] at h5
  simp only[aj,ak,aa,QS,Qx,↓ab,hn,h0,h3,h5,AA.bm UK,bk d0,bk d1]
  refine(Jq (lib:=df) rfl rfl rfl _ t y (dB L) LC (by rw[hNs];exact hy.aG) hR (by omega) sN).mono ?_
  rintro _ a ⟨ca,rfl,oa,ka⟩
  have ma:=ka.next
  simp only[aj,ak,aa,QS,↓ab,hn]
  refine(jD (lib:=df) rfl rfl rfl _ a bh ca _ oa sAn).mono ?_
  rintro _ b ⟨cb,rfl,ob,kb⟩
  have mb:=kb.next
  have lb:=ob.len
  simp only[aj,ae,QS,↓ab,hn,gi (cs:=(.string ⟨bh.toArray⟩::cb).toArray) bq qq zE Td rfl (sE bh cb lb) (by decide)]
  refine aQ (by simp[lb]) ?_
  intro u e hu hF ke
  simp only[aj,al,oneOf,QS,↓ab,hn,bo]
  rw[fw,eE,ha]
  have rows:=aU.one (F:=fun j=>s.next<=j) (s:=e) (sE bh cb lb) (toE bh cb _ _ _ _ ob (by omega) ke (by decide))
  exact⟨_,hu.aG,rows,aE.trans (((ka.trans (kb.weaken (by omega))).trans (ke.weaken (by omega))).weaken nt)⟩
end Go.Proofs.YtdfjfncifneocaaGreat
namespace Go.Cl
theorem dy.H8 {F:b5->Prop}{s:aq}{cs:av a4}{o:O}(h:dy F s cs o):cs.getD 0 undef= .int .i64 o.kind/\cs.getD 1 undef= .int .i64 o.num:=by
 cases o with
 |mk k n b l d=>obtain⟨bv,lv,dv,lc,dc,rfl,-⟩:=h.parts;exact⟨rfl,rfl⟩
theorem ax.MY {s s' :aq}{i jl jo:b5}{cs:av a4}(h:ax s i cs)(hn:s.next<=s'.next)(hg:∀j,j<s.next->j≠jl->j≠jo->s'.heap.get j=s.heap.get j)(h1:i≠jl)(h2:i≠jo):ax s' i cs:=by
 obtain⟨low,z,b1,b2⟩:=h.dZ
 exact⟨Nat.lt_of_lt_of_le h.lt hn,low,z,by simp only[aq.bR,hg _ h.lt h1 h2];exact b1,b2⟩
end Go.Cl
namespace Go.Cl.Ch
open Go.Cl.Pr
def EO:av b4:=[69,97,114,108,121,67,104,97,110,103,101]
def ez (o:O)(k:av b4)(d:c6):c6×cB:=if(fV o k).kind=0 then(d,true) else((fV o k).num,decide ((fV o k).kind=2))
def se (n p:O):Lk:=⟨(ez p sd 1).1,(ez p jQ 1).1,(ez p gO 1).1,n.bytes,(ez p EO 1).1⟩
def RH (p:O):cB:=(ez p sd 1).2&&(ez p jQ 1).2&&(ez p gO 1).2&&(ez p EO 1).2
def A4 (n p:O):cB:=(RH p&&decide (oC (se n p).p (se n p).co (se n p).cl))&&decide ((se n p).early=1)&&(decide ((se n p).p=1)||(ez p r9 8).2&&decide ((ez p r9 8).1=8))
def o8 (n p:O):Lk×cB:=if n.kind≠5\/p.kind≠0/\p.kind≠7 then(⟨0,0,0,[],0⟩,false) else(se n p,A4 n p)
end Go.Cl.Ch
namespace Go.Proofs.YtdfjfncifneocaaGreat
open Go.Cl Go.Cl.Pr Go.Cl.Ch
theorem EP (F:b5->Prop)(s:aq)(cs:av a4)(o:O)(ho:dy F s cs o)(nM:Small o)(k:av b4):Runs af df 61 [.agg cs.toArray,.string ⟨k.toArray⟩] s (lK s (fV o k)):=aaB rfl rfl rfl rfl rfl F s cs o ho nM k
theorem H9 (F:b5->Prop)(s:aq)(cs:av a4)(o:O)(ho:dy F s cs o)(nM:Small o)(k:av b4)(d:c6):
  Runs af df 63 [.agg cs.toArray,.string ⟨k.toArray⟩,.int .i64 d] s fun v s' =>v= .tuple #[.int .i64 (ez o k d).1,.bool (ez o k d).2]/\ar s.next s s' :=by
 have jS:=ho.len
 refine Runs.enter 21 Tryz.func63 rfl rfl rfl rfl ?_
 intro f hn hf
 have h0:f.get 0= .agg cs.toArray:=hf 0
 have h1:f.get 1= .string ⟨k.toArray⟩:=hf 1
 have h2:f.get 2= .int .i64 d:=hf 2
 clear hf
 have mh:de.length+1=6:=rfl
 simp only[aj,QS,↓ab,hn,h0]
 refine aw ?_
 intro s1 eK bn iV
 simp only[aj,ak,aa,QS,Qx,b8,↓ab,hn,h1,jS,ax.gl eK jS]
 refine(EP F s1 cs o (ho.keeps bn) nM k).mono ?_
 rintro _ s2 ⟨c2,rfl,fN,k2⟩
 have n1:=bn.next
 have n2:=k2.next
 simp only[aj,QS,↓ab,hn,zO,wD]
 refine aw ?_
 intro s3 jM bC Dw
 simp only[aj,QS,Qx,↓ab,hn,mh]
 refine aB iL (by decide) jM rfl rfl fN.len fN.ok ?_
 intro s4 gv vY vh
 have gv:ax s4 s2.next c2:=gv
 have dX:ar s.next s s4:=((bn.trans (k2.weaken n1)).trans (bC.weaken (by omega))).trans ⟨by omega,fun j hj=>vh j (by omega)⟩
 obtain⟨q0,q1⟩:=dy.H8 fN
 have l0:aJ af s4 3 (.pointer (some ⟨s2.next,0,some 6⟩))=some (.int .i64 (fV o k).kind):=by
  have:=gv.load (P:=af) bu (off:=0) (c:=6) (by rw[fN.len]) (by rw[fN.len];omega)
  rw[this,q0]
 have l1:aJ af s4 2 (.pointer (some ⟨s2.next,1,some 6⟩))=some (.int .i64 (fV o k).num):=by
  have:=gv.load (P:=af) acb (off:=1) (c:=6) (by rw[fN.len]) (by rw[fN.len];omega)
  rw[this,q1]
 by_cases c0:(fV o k).kind=0
 ·simp only[aj,al,oneOf,QS,Qx,↓ab,hn,h2,F2,l0,c0,cx]
  exact⟨by unfold ez;rw[if_pos c0],dX⟩
 ·simp only[aj,al,oneOf,QS,Qx,↓ab,hn,F2,of1,l0,l1,ao c0,cx]
  exact⟨by unfold ez;rw[if_neg c0],dX⟩
theorem yq (F:b5->Prop)(s:aq)(cs:av a4)(o:O)(ho:dy F s cs o)(nM:Small o)(k:av b4)(d:c6)(jl jp jo m:b5)(lc:av a4)(b:cB)(h5:lc.length=5)(hm:m<5)(hl:ax s jl lc)(hp:ax s jp cs)(hb:ax s jo [.bool b])(cH:jl≠jo):
  Runs af df 62 [.pointer (some ⟨jl,m,some 6⟩),.string ⟨k.toArray⟩,.int .i64 d,.pointer (some ⟨jp,0,some 6⟩),.pointer (some ⟨jo,0,some 2⟩)] s fun v s' =>v= .tuple #[]/\ax s' jl (lc.set m (.int .i64 (ez o k d).1))/\ax s' jo [.bool (b&&(ez o k d).2)]/\s.next<=s'.next/\∀j,j<s.next->j≠jl->j≠jo->s'.heap.get j=s.heap.get j:=by
 have jS:=ho.len
 refine Runs.enter 24 Tryz.func62 rfl rfl rfl rfl ?_
 intro f hn hf
 have h0:f.get 0= .pointer (some ⟨jl,m,some 6⟩):=hf 0
 have h1:f.get 1= .string ⟨k.toArray⟩:=hf 1
 have h2:f.get 2= .int .i64 d:=hf 2
 have h3:f.get 3= .pointer (some ⟨jp,0,some 6⟩):=hf 3
 have h4:f.get 4= .pointer (some ⟨jo,0,some 2⟩):=hf 4
 clear hf
 have lp:=ax.gl hp jS
 simp only[aj,ak,aa,QS,Qx,↓ab,hn,h1,h2,h3,lp]
 refine(H9 F s cs o ho nM k d).mono ?_
 rintro _ s1 ⟨rfl,k1⟩
 have jn:=hl.keeps k1
 have gL:=hb.keeps k1
 have n1:=k1.next
 obtain⟨R,hR⟩:∃R,R=ez o k d:=⟨_,rfl⟩
 rw[<-hR]
 have x0:ba (.tuple #[.int .i64 R.1,.bool R.2]) 0=some (.int .i64 R.1):=rfl
 have x1:ba (.tuple #[.int .i64 R.1,.bool R.2]) 1=some (.bool R.2):=rfl
 simp only[aj,QS,Qx,↓ab,hn,x0,x1]
 obtain⟨A,hA⟩:∃A:b5->cB,A=fun j=>decide (j<s1.next/\j≠jl):=⟨_,rfl⟩
 have iU:∀j,A j=true->j<s1.next:=by
  intro j h
  rw[hA] at h
  exact(a8 h).1
 have hAj:A jl=false:=by rw[hA];exact ao (fun h=>h.2 rfl)
 have vM:A jo=true:=by rw[hA];exact a5 ⟨gL.lt,Ne.symm cH⟩
 refine LB.cX.fi A iU 1 0 (by kernel_rfl) (by kernel_rfl) ?_
 have dC:=ar.spare s1 0
 have UD:(spare s1 0).next=s1.next+0:=bU _ _
 have oI:∀k,LA.ej A (some (.pointer (some ⟨jo,k,some 2⟩)))=true:=fun k=>LA.cr (A:=A) (i:=jo) vM
 have l4:aJ af (spare s1 0) 4 (.pointer (some ⟨jo,0,some 2⟩))=some (.bool b):=(gL.keeps dC).load O4 (off:=0) (c:=2) rfl (by simp)
 have g7:=jn.keeps dC
 have dI:=gL.keeps dC
 have fin:∀(c:cB) (T1 T2:aq),ax T1 jl (over lc m [.int .i64 R.1])->T1.next=(spare s1 0).next->(∀j,j≠jl->T1.heap.get j=(spare s1 0).heap.get j)->ax T2 jo [.bool c]->T2.next=T1.next->(∀j,j≠jo->T2.heap.get j=T1.heap.get j)->ax T2 jl (lc.set m (.int .i64 R.1))/\ax T2 jo [.bool c]/\s.next<=T2.next/\∀j,j<s.next->j≠jl->j≠jo->T2.heap.get j=s.heap.get j:=by
  intro c T1 T2 a1 a2 a3 b1 b2 b3
  have e:over lc m [.int .i64 R.1]=lc.set m (.int .i64 R.1):=by
   unfold over;rw[List.set_eq_take_append_cons_drop,if_pos (by omega)];simp
  rw[e] at a1
  refine⟨a1.aK b2 b3 cH,b1,by omega,fun j hj h1 h2=> ?_⟩
  rw[b3 j h2,a3 j h1,dC.get j (by omega),k1.get j hj]
 cases b with
 |true=>
  simp only[aj,ak,bH,bI,QS,Qx,↓ab,hn,h0,h4,oI,l4]
  refine LB.fj (m:=1) bA (by decide) g7 (by omega) rfl rfl (by omega) rfl (fun _=>hAj) ?_
  intro T1 a1 a2 a3
  simp only[aj,bI,a9,QS,Qx,↓ab,hn,h4]
  refine LB.fj (m:=1) zx (by decide) (dI.aK a2 a3 (Ne.symm cH)) rfl rfl rfl (by decide) rfl (fun h=>bg rfl h) ?_
  intro T2 b1 b2 b3
  simp only[aj,ah,oneOf,aj,bI,an,oneOf,cz]
  exact fin _ T1 T2 a1 a2 a3 b1 b2 b3
 |false=>
  simp only[aj,ak,bH,bI,QS,Qx,↓ab,hn,h0,h4,oI,l4]
  refine LB.fj (m:=1) bA (by decide) g7 (by omega) rfl rfl (by omega) rfl (fun _=>hAj) ?_
  intro T1 a1 a2 a3
  simp only[aj,bI,a9,QS,Qx,↓ab,hn,h4]
  refine LB.fj (m:=1) zx (by decide) (dI.aK a2 a3 (Ne.symm cH)) rfl rfl rfl (by decide) rfl (fun h=>bg rfl h) ?_
  intro T2 b1 b2 b3
  simp only[aj,ah,oneOf,aj,bI,an,oneOf,cz]
  exact fin _ T1 T2 a1 a2 a3 b1 b2 b3
theorem Yb (F G:b5->Prop)(s:aq)(cn cs:av a4)(n o:O)(hN:dy F s cn n)(hO:dy G s cs o)(nM:Small o):
  Runs af df 32 [.agg cn.toArray,.agg cs.toArray] s fun v s' =>v= .tuple #[fE (o8 n o).1,.bool (o8 n o).2]/\ar s.next s s' :=by
 have S5:=hN.len
 have jS:=hO.len
 obtain⟨QQ,fw⟩:∃QQ:a4->aq->Prop,QQ=fun v s' =>v= .tuple #[fE (o8 n o).1,.bool (o8 n o).2]/\ar s.next s s' :=⟨_,rfl⟩
 rw[<-fw]
 refine Runs.enter 75 Tryz.func32 rfl rfl rfl rfl ?_
 intro f hn hf
 have h0:f.get 0= .agg cn.toArray:=hf 0
 have h1:f.get 1= .agg cs.toArray:=hf 1
 clear hf
 have mh:(⟨0,0,0,[],0⟩:Lk).cells.length+1=6:=rfl
 have MX:bV af 58=some (fE ⟨0,0,0,[],0⟩):=by kernel_rfl
 have yp:bN (fE ⟨0,0,0,[],0⟩)=true:=by kernel_rfl
 simp only[aj,QS,↓ab,hn,h0]
 refine aw ?_
 intro s1 eK bn iV
 simp only[aj,QS,Qx,b8,↓ab,hn,h1,S5]
 refine aw ?_
 intro s2 dD aR m8
 simp only[aj,QS,b8,↓ab,hn,jS,MX,yp]
 refine aw ?_
 intro s3 jM bC Dw
 have jM:ax s3 s2.next (⟨0,0,0,[],0⟩:Lk).cells:=jM
 have n1:=bn.next
 have n2:=aR.next
 have n3:=bC.next
 have fB:ar s.next s s3:=(bn.trans (aR.weaken n1)).trans (bC.weaken (by omega))
 have eK:=eK.keeps (aR.trans (bC.weaken n2))
 have dD:=dD.keeps bC
 obtain⟨a0,-⟩:=dy.H8 hN
 obtain⟨b0,-⟩:=dy.H8 hO
 have l1:aJ af s3 3 (.pointer (some ⟨s.next,0,some 6⟩))=some (.int .i64 n.kind):=by
  have:=eK.load (P:=af) bu (off:=0) (c:=6) (by omega) (by omega)
  rw[this,a0]
 have l2:aJ af s3 3 (.pointer (some ⟨s1.next,0,some 6⟩))=some (.int .i64 o.kind):=by
  have:=dD.load (P:=af) bu (off:=0) (c:=6) (by omega) (by omega)
  rw[this,b0]
 have bz:cC af 58 []=some (fE ⟨0,0,0,[],0⟩):=by kernel_rfl
 by_cases c1:n.kind≠5\/o.kind≠0/\o.kind≠7
 ·have e:o8 n o=(⟨0,0,0,[],0⟩,false):=by unfold o8;rw[if_pos c1]
  have fin:∀s4:aq,ax s4 s2.next (fE ⟨0,0,0,[],0⟩).cells.toList->s4.next=s3.next->(∀j,j≠s2.next->s4.heap.get j=s3.heap.get j)->aJ af s4 58 (.pointer (some ⟨s2.next,0,some 6⟩))=some (fE ⟨0,0,0,[],0⟩)/\ar s.next s s4:=fun s4 h1 h2 h3=>⟨ax.bF (P:=af) (cs:=(⟨0,0,0,[],0⟩:Lk).cells) mi dp h1 (c:=6) rfl,fB.trans ⟨by omega,fun j hj=>h3 j (by omega)⟩⟩
  by_cases c5:n.kind=5
  ·obtain⟨c2,c3⟩:o.kind≠0/\o.kind≠7:=c1.elim (fun h=>bg c5 h) id
   simp only[aj,ak,ae,QS,Qx,↓ab,hn,mh,F2,l1,l2,bz,cA,c5,ao c2,ao c3]
   refine aB dp (by decide) jM rfl rfl rfl rfl ?_
   intro s4 gv vY vh
   obtain⟨e1,e2⟩:=fin s4 gv vY vh
   simp only[aj,al,oneOf,QS,Qx,↓ab,hn,aV,e1,a6]
   rw[fw,e]
   exact⟨rfl,e2⟩
  ·simp only[aj,ak,ae,QS,Qx,↓ab,undef,hn,mh,F2,l1,bz,cA,ao c5]
   refine aB dp (by decide) jM rfl rfl rfl rfl ?_
   intro s4 gv vY vh
   obtain⟨e1,e2⟩:=fin s4 gv vY vh
   simp only[aj,al,oneOf,QS,Qx,↓ab,hn,aV,e1,a6]
   rw[fw,e]
   exact⟨rfl,e2⟩
 have c5:n.kind=5:=Classical.byContradiction fun h=>c1 (.inl h)
 have c7:o.kind=0\/o.kind=7:=Classical.byContradiction fun h=>c1 (.inr ⟨fun e=>h (.inl e),fun e=>h (.inr e)⟩)
 have e:o8 n o=(se n o,A4 n o):=by unfold o8;rw[if_neg c1]
 obtain⟨bv,zq,oA⟩:∃bv,cn.getD 2 undef=bv/\aN s 1 bv n.bytes.length (ofBytes n.bytes):=by
  cases n with
  |mk k m b l d=>obtain⟨bv,lv,dv,lc,dc,rfl,h1,-⟩:=hN.parts;exact⟨bv,rfl,h1⟩
 have l3:aJ af s3 22 (.pointer (some ⟨s.next,2,some 6⟩))=some bv:=by
  have:=eK.load (P:=af) fU (off:=2) (c:=6) (by omega) (by omega)
  rw[this,zq]
 have aol:=(oA.keeps fB).str (P:=af) Tryz.underlying22 Tryz.underlying9 Tryz.underlying5
 have bl:cC af 58 [(1,.string ⟨n.bytes.toArray⟩)]=some (fE ⟨0,0,0,n.bytes,0⟩):=by kernel_rfl
 have zB:bV af 4=some (.bool false):=by kernel_rfl
 simp only[aj,ak,QS,Qx,↓ab,hn,mh,F2,l1,c5]
 generalize hK:rP af df (Code.seq (Code.region 3 _ _) _) _=K
 have go:∀f:aW,f.n=75->f.get 2= .pointer (some ⟨s.next,0,some 6⟩)->f.get 3= .pointer (some ⟨s1.next,0,some 6⟩)->f.get 4= .pointer (some ⟨s2.next,0,some 6⟩)->K .normal f s3:=by
  clear hn h0 h1 f
  intro f hn h2 h3 h4
  subst hK
  simp only[aj,ae,QS,↓ab,hn,h2,of2,l3,aol,bl,MX,yp]
  refine aw ?_
  intro s4 gv dX sl
  have gv:ax s4 s3.next (⟨0,0,0,[],0⟩:Lk).cells:=gv
  simp only[aj,QS,Qx,↓ab,hn,mh]
  refine aB dp (by decide) gv rfl rfl rfl rfl ?_
  intro s5 wE hn5 Nv
  have wE:ax s5 s3.next (⟨0,0,0,n.bytes,0⟩:Lk).cells:=wE
  have n4:=dX.next
  have hk5:ar s3.next s3 s5:=dX.trans ⟨by omega,fun j hj=>Nv j (by omega)⟩
  simp only[aj,zB]
  refine aw ?_
  intro s6 Q5 dY aej
  have Q5:ax s6 s5.next [.bool false]:=Q5
  have n6:=dY.next
  simp only[aj,QS,↓ab,hn]
  refine aY zx Q5 rfl (by decide) rfl ?_
  intro s7 uD hn7 hs7
  have uD:ax s7 s5.next [.bool true]:=uD
  have hk7:ar s3.next s3 s7:=(hk5.trans (dY.weaken (by omega))).trans ⟨by omega,fun j hj=>hs7 j (by omega)⟩
  have zt:ax s7 s3.next (⟨0,0,0,n.bytes,0⟩:Lk).cells:=(wE.keeps dY).aK hn7 hs7 (by omega)
  have hp7:=dD.keeps hk7
  have vC:(Value.bool false).cells.toList.length+1=2:=rfl
  have hz7:ar s.next s s7:=fB.trans (hk7.weaken (by omega))
  have hq7:=jM.keeps hk7
  have hb7:=uD
  obtain⟨w1,hw1⟩:∃w,w=ez o sd 1:=⟨_,rfl⟩
  obtain⟨w2,Tj⟩:∃w,w=ez o jQ 1:=⟨_,rfl⟩
  obtain⟨w3,Nt⟩:∃w,w=ez o gO 1:=⟨_,rfl⟩
  obtain⟨w4,Lr⟩:∃w,w=ez o EO 1:=⟨_,rfl⟩
  obtain⟨w5,hw5⟩:∃w,w=ez o r9 8:=⟨_,rfl⟩
  simp only[aj,ak,aa,QS,Qx,↓ab,hn,h3,vC,ru,tJ,mZ]
  refine(yq G s7 cs o (hO.keeps hz7) nM sd 1 s3.next s1.next s5.next 0 (⟨0,0,0,n.bytes,0⟩:Lk).cells true rfl (by decide) zt hp7 hb7 (by omega)).mono ?_
  rintro _ s8 ⟨rfl,Js,hb8,SM,hg8⟩
  rw[<-hw1] at Js hb8
  have hp8:ax s8 s1.next cs:=hp7.MY SM hg8 (by omega) (by omega)
  have ha8:ar s.next s s8:=hz7.trans ⟨by omega,fun j hj=>hg8 j (by omega) (by omega) (by omega)⟩
  have hz8:=ha8
  have vd:ax s8 s2.next _:=hq7.MY SM hg8 (by omega) (by omega)
  have hq8:=vd
  have Js:ax s8 s3.next (⟨w1.1,0,0,n.bytes,0⟩:Lk).cells:=Js
  simp only[aj,ak,aa,QS,Qx,↓ab,hn,tJ,Bb]
  refine(yq G s8 cs o (hO.keeps hz8) nM jQ 1 s3.next s1.next s5.next 1 (⟨w1.1,0,0,n.bytes,0⟩:Lk).cells (true&&w1.2) rfl (by decide) Js hp8 hb8 (by omega)).mono ?_
  rintro _ s9 ⟨rfl,hl9,hb9,hn9,hg9⟩
  rw[<-Tj] at hl9 hb9
  have hp9:ax s9 s1.next cs:=hp8.MY hn9 hg9 (by omega) (by omega)
  have ha9:ar s.next s s9:=hz8.trans ⟨by omega,fun j hj=>hg9 j (by omega) (by omega) (by omega)⟩
  have hz9:=ha9
  have ht9:ax s9 s2.next _:=hq8.MY hn9 hg9 (by omega) (by omega)
  have hq9:=ht9
  have hl9:ax s9 s3.next (⟨w1.1,w2.1,0,n.bytes,0⟩:Lk).cells:=hl9
  simp only[aj,ak,aa,QS,Qx,↓ab,hn,tJ,FK]
  refine(yq G s9 cs o (hO.keeps hz9) nM gO 1 s3.next s1.next s5.next 2 (⟨w1.1,w2.1,0,n.bytes,0⟩:Lk).cells ((true&&w1.2)&&w2.2) rfl (by decide) hl9 hp9 hb9 (by omega)).mono ?_
  rintro _ vf ⟨rfl,Yc,ae9,afa,afb⟩
  rw[<-Nt] at Yc ae9
  have ajx:ax vf s1.next cs:=hp9.MY afa afb (by omega) (by omega)
  have aor:ar s.next s vf:=hz9.trans ⟨by omega,fun j hj=>afb j (by omega) (by omega) (by omega)⟩
  have ajy:=aor
  have PM:ax vf s2.next _:=hq9.MY afa afb (by omega) (by omega)
  have aos:=PM
  have Yc:ax vf s3.next (⟨w1.1,w2.1,w3.1,n.bytes,0⟩:Lk).cells:=Yc
  simp only[aj,ak,aa,QS,Qx,↓ab,hn,W3]
  refine(yq G vf cs o (hO.keeps ajy) nM EO 1 s3.next s1.next s5.next 4 (⟨w1.1,w2.1,w3.1,n.bytes,0⟩:Lk).cells (((true&&w1.2)&&w2.2)&&w3.2) rfl (by decide) Yc ajx ae9 (by omega)).mono ?_
  rintro _ s11 ⟨rfl,Yd,afc,ajz,afd⟩
  rw[<-Lr] at Yd afc
  have aot:ax s11 s1.next cs:=ajx.MY ajz afd (by omega) (by omega)
  have aou:ar s.next s s11:=ajy.trans ⟨by omega,fun j hj=>afd j (by omega) (by omega) (by omega)⟩
  have afe:=aou
  have aov:ax s11 s2.next _:=aos.MY ajz afd (by omega) (by omega)
  have aow:=aov
  have Yd:ax s11 s3.next (⟨w1.1,w2.1,w3.1,n.bytes,w4.1⟩:Lk).cells:=Yd
  have lp:=ax.gl aot jS
  simp only[aj,ak,aa,QS,Qx,↓ab,hn,h3,lp]
  refine(H9 G s11 cs o (hO.keeps afe) nM r9 8).mono ?_
  rintro _ yF ⟨rfl,k12⟩
  rw[<-hw5]
  have x0:ba (.tuple #[.int .i64 w5.1,.bool w5.2]) 0=some (.int .i64 w5.1):=rfl
  have x1:ba (.tuple #[.int .i64 w5.1,.bool w5.2]) 1=some (.bool w5.2):=rfl
  simp only[aj,QS,Qx,↓ab,hn,x0,x1]
  obtain⟨ok,dH⟩:∃ok,ok=((((true&&w1.2)&&w2.2)&&w3.2)&&w4.2):=⟨_,rfl⟩
  obtain⟨l,hl⟩:∃l:Lk,l=⟨w1.1,w2.1,w3.1,n.bytes,w4.1⟩:=⟨_,rfl⟩
  have hQl:se n o=l:=by unfold se;rw[<-hw1,<-Tj,<-Nt,<-Lr,hl]
  have hU:A4 n o=((ok&&decide (oC l.p l.co l.cl))&&decide (l.early=1)&&(decide (l.p=1)||w5.2&&decide (w5.1=8))):=by
   unfold A4;rw[hQl,<-hw5];unfold RH;rw[<-hw1,<-Tj,<-Nt,<-Lr,dH,Bool.true_and]
  have abo:ax s11 s3.next l.cells:=by rw[hl];exact Yd
  have abp:ax s11 s5.next [.bool ok]:=by rw[dH];exact afc
  have abo:=abo.keeps k12
  have abp:=abp.keeps k12
  have aeX:=aow.keeps k12
  have abq:=afe.trans (k12.weaken afe.next)
  clear zt Js hl9 Yc Yd hb7 hb8 hb9 ae9 afc
  obtain⟨A,hA⟩:∃A:b5->cB,A=fun j=>decide (j<yF.next):=⟨_,rfl⟩
  have iU:∀j,A j=true->j<yF.next:=by
   intro j h
   rw[hA] at h
   exact a8 h
  have hA3:A s3.next=true:=by rw[hA];exact a5 abo.lt
  have hA5:A s5.next=true:=by rw[hA];exact a5 abp.lt
  refine LB.cX.fi A iU 1 0 (by kernel_rfl) (by kernel_rfl) ?_
  have dC:=ar.spare yF 0
  have UD:(spare yF 0).next=yF.next+0:=bU _ _
  have lo3:∀k,LA.ej A (some (.pointer (some ⟨s3.next,k,some 6⟩)))=true:=fun k=>LA.cr (A:=A) (i:=s3.next) hA3
  have lo5:∀k,LA.ej A (some (.pointer (some ⟨s5.next,k,some 2⟩)))=true:=fun k=>LA.cr (A:=A) (i:=s5.next) hA5
  have afh:=abo.keeps dC
  have ajA:=aeX.keeps dC
  have abr:ar s.next s (spare yF 0):=abq.trans (dC.weaken abq.next)
  have gY:bZ (fE l) (fE l)=true:=by simp[bZ,fp,cN,Lk.cells]
  have pl:aJ af (spare yF 0) 58 (.pointer (some ⟨s3.next,0,some 6⟩))=some (fE l):=ax.bF (P:=af) (cs:=l.cells) mi dp afh (c:=6) rfl
  have pb:aJ af (spare yF 0) 4 (.pointer (some ⟨s5.next,0,some 2⟩))=some (.bool ok):=(abp.keeps dC).load O4 (off:=0) (c:=2) rfl (by simp)
  have ps:aJ af (spare yF 0) 56 (.pointer (some ⟨s3.next,0,some 6⟩))=some (i3 l.p l.co l.cl):=by
   have:=ax.uj (P:=af) Ay rW afh (off:=0) (c:=6) rfl (by simp[Lk.cells])
   rw[this];rfl
  have DR:bZ (i3 l.p l.co l.cl) (i3 l.p l.co l.cl)=true:=by simp[bZ,fp,cN]
  cases ok with
  |false=>
   simp only[aj,ak,bH,bI,a9,QS,Qx,↓ab,undef,hn,h4,lo3,lo5,pl,pb,gY]
   refine LB.ct dp (by decide) ajA rfl rfl rfl rfl (fun h=>bg rfl h) ?_
   intro u Ye J4 Ef
   have lo:=ax.bF (P:=af) (cs:=l.cells) mi dp Ye (c:=6) rfl
   simp only[aj,al,oneOf,QS,Qx,↓ab,aj,bH,bI,an,oneOf,QS,Qx,↓ab,hn,h4,aV,lo,a6]
   rw[fw,e,hU,hQl]
   exact⟨by simp,abr.trans ⟨by omega,fun j hj=>Ef j (by omega)⟩⟩
  |true=>
   simp only[aj,ak,bH,bI,a9,aa,QS,Qx,↓ab,hn,lo3,lo5,pl,pb,gY,tJ,ps,DR]
   refine(xF (lib:=df) rfl (spare yF 0) l.p l.co l.cl).mono ?_
   rintro _ s13 ⟨rfl,k13⟩
   refine⟨fun _=>LA.ar.yC iU (k13.weaken (by omega)),?_⟩
   have Yf:=ajA.keeps k13
   have ajB:=afh.keeps k13
   have Yg:ar s.next s s13:=abr.trans (k13.weaken abr.next)
   have nz:=abr.next
   have pe:aJ af s13 3 (.pointer (some ⟨s3.next,4,some 6⟩))=some (.int .i64 l.early):=ajB.load bu (off:=4) (c:=6) rfl (by simp[Lk.cells])
   have pp:aJ af s13 3 (.pointer (some ⟨s3.next,0,some 6⟩))=some (.int .i64 l.p):=ajB.load bu (off:=0) (c:=6) rfl (by simp[Lk.cells])
   by_cases d1:oC l.p l.co l.cl
   rotate_left
   ·rw[ao d1] at hU|-
    simp only[aj,ak,bH,bI,QS,Qx,↓ab,undef,hn,h4]
    refine LB.ct dp (by decide) Yf rfl rfl rfl rfl (fun h=>bg rfl h) ?_
    intro u Ye J4 Ef
    have lo:=ax.bF (P:=af) (cs:=l.cells) mi dp Ye (c:=6) rfl
    simp only[aj,al,oneOf,QS,Qx,↓ab,aj,bH,bI,an,oneOf,QS,Qx,↓ab,hn,h4,aV,lo,a6]
    rw[fw,e,hU,hQl]
    exact⟨by simp,Yg.trans ⟨by omega,fun j hj=>Ef j (by omega)⟩⟩
   rw[a5 d1] at hU|-
   by_cases d2:l.early=1
   rotate_left
   ·rw[ao d2] at hU
    simp only[aj,ak,bH,bI,QS,Qx,↓ab,undef,hn,h4,lo3,W3,pe,bk d2]
    refine LB.ct dp (by decide) Yf rfl rfl rfl rfl (fun h=>bg rfl h) ?_
    intro u Ye J4 Ef
    have lo:=ax.bF (P:=af) (cs:=l.cells) mi dp Ye (c:=6) rfl
    simp only[aj,al,oneOf,QS,Qx,↓ab,aj,bH,bI,an,oneOf,QS,Qx,↓ab,hn,h4,aV,lo,a6]
    rw[fw,e,hU,hQl]
    exact⟨by simp,Yg.trans ⟨by omega,fun j hj=>Ef j (by omega)⟩⟩
   rw[a5 d2] at hU
   by_cases d3:l.p=1
   ·rw[a5 d3] at hU
    simp only[aj,ak,bH,bI,QS,Qx,↓ab,undef,hn,h4,lo3,W3,tJ,mZ,pe,pp,b7 d2,b7 d3]
    refine LB.ct dp (by decide) Yf rfl rfl rfl rfl (fun h=>bg rfl h) ?_
    intro u Ye J4 Ef
    have lo:=ax.bF (P:=af) (cs:=l.cells) mi dp Ye (c:=6) rfl
    simp only[aj,al,oneOf,QS,Qx,↓ab,aj,bH,bI,an,oneOf,QS,Qx,↓ab,hn,h4,aV,lo,a6]
    rw[fw,e,hU,hQl]
    exact⟨by simp,Yg.trans ⟨by omega,fun j hj=>Ef j (by omega)⟩⟩
   rw[ao d3] at hU
   obtain⟨wn,wb⟩:=w5
   cases wb with
   |false=>
    simp only[aj,ak,bH,bI,QS,Qx,↓ab,undef,hn,h4,lo3,W3,tJ,mZ,pe,pp,b7 d2,bk d3]
    refine LB.ct dp (by decide) Yf rfl rfl rfl rfl (fun h=>bg rfl h) ?_
    intro u Ye J4 Ef
    have lo:=ax.bF (P:=af) (cs:=l.cells) mi dp Ye (c:=6) rfl
    simp only[aj,al,oneOf,QS,Qx,↓ab,aj,bH,bI,an,oneOf,QS,Qx,↓ab,hn,h4,aV,lo,a6]
    rw[fw,e,hU,hQl]
    exact⟨by simp,Yg.trans ⟨by omega,fun j hj=>Ef j (by omega)⟩⟩
   |true=>
    simp only[aj,ak,bH,bI,QS,Qx,↓ab,hn,h4,lo3,W3,tJ,mZ,pe,pp,b7 d2,bk d3]
    refine LB.ct dp (by decide) Yf rfl rfl rfl rfl (fun h=>bg rfl h) ?_
    intro u Ye J4 Ef
    have lo:=ax.bF (P:=af) (cs:=l.cells) mi dp Ye (c:=6) rfl
    simp only[aj,al,oneOf,QS,Qx,↓ab,aj,bH,bI,an,oneOf,QS,Qx,↓ab,hn,h4,aV,lo,a6]
    rw[fw,e,hU,hQl]
    exact⟨by simp,Yg.trans ⟨by omega,fun j hj=>Ef j (by omega)⟩⟩
 rcases c7 with c7|c7
 ·simp only[aj,ak,QS,Qx,↓ab,undef,hn,l2,c7]
  exact go _ (by simp only[ag,hn]) (by simp only[ad,↓ab,Qx]) (by simp only[ad,↓ab,Qx]) (by simp only[ad,↓ab,Qx])
 ·have d70:decide ((7:c6)=0)=false:=rfl
  simp only[aj,ak,QS,Qx,↓ab,hn,F2,l2,cA,c7,d70]
  exact go _ (by simp only[ag,hn]) (by simp only[ad,↓ab,Qx]) (by simp only[ad,↓ab,Qx]) (by simp only[ad,↓ab,Qx])
end Go.Proofs.YtdfjfncifneocaaGreat
