import Derived.Test.YtdfjfncifneocaaGreatChC
open Nat renaming reduceLT->QS,reduceEqDiff->Qx
set_option maxHeartbeats 8000000
set_option linter.unusedSimpArgs false
set_option linter.unusedVariables false
set_option maxRecDepth 100000
namespace Go.Cl
theorem H6 {k n:Int}{b:List UInt8}{l d:List (List UInt8×O)}{L:List O}(hb:b.length<=100000000)(hL:L.length<=100000)(F3:∀x∈L,Small x)(hd:d.length+l.length<=100000)(h1:∀e∈d,e.1.length<=100000/\Small e.2)(h2:∀e∈l,e.1.length<=100000/\Small e.2):Small (.mk k n b L (cV d l)):=by
 have h3:=DQ d l
 have h4:∀e∈cV d l,e.1.length<=100000/\Small e.2:=fun e he=>by
  rcases OL l d he with h|h
  ·exact h1 e h
  ·exact h2 e h
 exact .mk hb hL (by omega) (fun e he=>(h4 e he).1) F3 (fun e he=>(h4 e he).2)
end Go.Cl
namespace Go.Cl.Ch
def rH (l:List O):O:= .mk 6 0 [] l []
def dB (L:List Lk):List O:=L.map fun l=>mu l.name
def gD (L:List Lk):List O:=L.map eO
def wv (L:List Lk):Bool:=L.any fun l=>decide (l.p≠1)
def kV (L:List Lk):List (List UInt8×O):=
 match L with
 |[]=>[]
 |[l]=>[(bh,mu l.name),(cG,eO l)]
 |a::b::r=>if wv (a::b::r) then [(bh,rH (dB (a::b::r))),(cG,rH (gD (a::b::r)))] else [(bh,rH (dB (a::b::r)))]
theorem rI (l:Lk):Small (eO l):=by
 unfold eO
 split
 ·exact Small.none
 ·refine H6 (by simp) (by simp) (fun e h=>by cases h) (by simp[uG]) (fun e h=>by cases h) (fun e he=>⟨?_,EM l e he⟩)
  simp only[uG,List.mem_cons,List.not_mem_nil,or_false] at he
  rcases he with rfl|rfl|rfl|rfl<;>simp[r9,jQ,gO,sd]
theorem tV {b:List UInt8}(h:b.length<=100000):Small (mu b):= .mk (by omega) (by simp) (by simp) (fun e h=>by cases h) (fun e h=>by cases h) (fun e h=>by cases h)
theorem yo {L:List Lk}(h:∀l∈L,l.name.length<=100000):∀o∈dB L,Small o:=by
 intro o ho
 obtain⟨l,hl,rfl⟩:=List.mem_map.1 ho
 exact tV (h l hl)
theorem A3 (L:List Lk):∀o∈gD L,Small o:=by
 intro o ho
 obtain⟨l,hl,rfl⟩:=List.mem_map.1 ho
 exact rI l
theorem H7 (L:List Lk):(kV L).length<=2:=by
 unfold kV
 split
 ·simp
 ·simp
 ·split<;>simp
theorem EN {L:List Lk}(h:∀l∈L,l.name.length<=100000)(hL:L.length<=100000):∀e∈kV L,e.1.length<=100000/\Small e.2:=by
 have sAn:Small (rH (dB L)):= .mk (by simp) (by simp[dB];omega) (by simp) (fun e h=>by cases h) (yo h) (fun e h=>by cases h)
 have sAp:Small (rH (gD L)):= .mk (by simp) (by simp[gD];omega) (by simp) (fun e h=>by cases h) (A3 L) (fun e h=>by cases h)
 intro e he
 unfold kV at he
 split at he
 ·cases he
 ·simp only[List.mem_cons,List.not_mem_nil,or_false] at he
  rcases he with rfl|rfl
  ·exact⟨by simp[bh],tV (h _ (by simp))⟩
  ·exact⟨by simp[cG],rI _⟩
 ·split at he
  ·simp only[List.mem_cons,List.not_mem_nil,or_false] at he
   rcases he with rfl|rfl
   ·exact⟨by simp[bh],sAn⟩
   ·exact⟨by simp[cG],sAp⟩
  ·simp only[List.mem_cons,List.not_mem_nil,or_false] at he
   subst he
   exact⟨by simp[bh],sAn⟩
theorem MW {L:List Lk}(h:∀l∈L,l.name.length<=100000)(hL:L.length<=100000):∀e∈kV L,Small e.2:=fun e he=>(EN h hL e he).2
end Go.Cl.Ch
namespace Go.Proofs.YtdfjfncifneocaaGreat
open Go.Cl Go.Cl.Pr Go.Cl.Ch
def acR (s:aq)(D:List (List UInt8×O))(v:Value)(s' :aq):Prop:=∃lx,aN s' 6 v D.length lx/\aU dz 6 (fun j=>s.next<=j) s' D lx/\ar s.next s s'
def rJ (b:Nat)(X:Nat->Prop)(y z:Value)(j:Nat):Prop:=b<=j/\¬(X j\/aI z=some j)/\aI y≠some j
theorem rJ.swap {b:Nat}{X:Nat->Prop}{y z:Value}{j:Nat}(h:rJ b X y z j):rJ b X z y j:=⟨h.1,fun k=>k.elim (fun k=>h.2.1 (.inl k)) h.2.2,fun k=>h.2.1 (.inr k)⟩
theorem rJ.grow {b:Nat}{X:Nat->Prop}{y y' z:Value}{T T' :aq}{D:List O}{lc:List Value}(h:aU dy 5 (rJ b X y z) T D lc){o:O}{cs:List Value}(hc:cs.length=5)(ho:dy (rJ b X y z) T cs o)(ht:bt y T T')(ra:aI y' =aI y\/∃i,aI y' =some i/\T.next<=i):aU dy 5 (rJ b X y' z) T' (D++[o]) (lc++cs):=
 aU.grow (X:=fun j=>X j\/aI z=some j) cK h hc ho ht ra
theorem rJ.other {b:Nat}{X:Nat->Prop}{y y' z:Value}{T T' :aq}{D:List O}{lc:List Value}(h:aU dy 5 (rJ b X y z) T D lc)(ht:bt y T T')(ra:aI y' =aI y\/∃i,aI y' =some i/\T.next<=i):aU dy 5 (rJ b X y' z) T' D lc:=by
 refine aU.mono cK (aU.turns cK (aU.below cK h) ht (fun j hj=>hj.1.2.2)) (fun j hj=>⟨hj.1.1,hj.1.2.1,fun e=> ?_⟩)
 rcases ra with h1|⟨i,h1,h2⟩
 ·exact hj.1.2.2 (by rw[<-h1];exact e)
 ·rw[h1] at e;injection e with e;have:=hj.2;omega
theorem rJ.RG {b:Nat}{X:Nat->Prop}{y z:Value}{T:aq}{D:List O}{lc:List Value}(h:aU dy 5 (rJ b X y z) T D lc):aU dy 5 (rJ b X z y) T D lc:=h.mono cK (fun _ h=>h.swap)
theorem rJ.acS {b n:Nat}{y z:Value}{T:aq}{D:List O}{lc:List Value}(h:aU dy 5 (rJ b (fun _=>False) y z) T D lc)(hn:T.next<=n):aU dy 5 (rJ b (fun j=>j=n) y z) T D lc:=
 (h.below cK).mono cK (fun j hj=>⟨hj.1.1,fun k=>k.elim (fun k=>by have:=hj.2;omega) (fun k=>hj.1.2.1 (.inr k)),hj.1.2.2⟩)
theorem rJ.put {b n:Nat}{y z:Value}{T T' :aq}{D:List O}{lc:List Value}(h:aU dy 5 (rJ b (fun j=>j=n) y z) T D lc)(h1:T'.next=T.next)(h2:∀j,j≠n->T'.heap.get j=T.heap.get j):aU dy 5 (rJ b (fun _=>False) y z) T' D lc:=
 (aU.turns cK (u:= .pointer (some ⟨n,0,none⟩)) h (bt.aK h1 h2) (fun j hj e=>by
  have e:some n=some j:=e
  injection e with e;exact hj.2.1 (.inl e.symm))).mono cK (fun j hj=>⟨hj.1,fun k=>k.elim (fun k=>k) (fun k=>hj.2.1 (.inr k)),hj.2.2⟩)
theorem Ge (s:aq)(x:Value)(L:List Lk)(hx:aN s 5 x L.length (ki L))(hL:L.length<=1000)(hN:∀l∈L,l.name.length<=100000):Runs Tryz.prog df 49 [x] s (acR s (kV L)):=by
 obtain⟨QQ,fw⟩:∃QQ:Value->aq->Prop,QQ=acR s (kV L):=⟨_,rfl⟩
 rw[<-fw]
 refine Runs.enter 63 Tryz.func49 rfl rfl rfl rfl ?_
 intro f hn hf
 have h0:f.get 0=x:=hf 0
 clear hf
 have UK:=Tryz.underlying31
 have UO:=Tryz.underlying23
 simp only[aj,aa,QS,Qx,↓reduceIte,hn,h0,hx.bm UK]
 refine Comes.bQ (fun q f t=>∃(i:Nat) (y z:Value) (LC MC:List Value),q=L.length-i/\i<=L.length/\Own t 5 y i LC/\Own t 5 z i MC/\aU dy 5 (rJ s.next (fun _=>False) y z) t (dB (L.take i)) LC/\aU dy 5 (rJ s.next (fun _=>False) y z) t (gD (L.take i)) MC/\aF s.next y/\aF s.next z/\(∀j,aI y=some j->aI z≠some j)/\ar s.next s t/\f.n=63/\f.get 0=x/\f.get 3=y/\f.get 4=z/\f.get 5= .bool (wv (L.take i))/\f.get 8=x/\f.get 9= .int .i64 (L.length:Nat)/\f.get 10= .int .i64 (i:Nat))
  (fun q f t=>q= .exit 0/\∃(y z:Value) (LC MC:List Value),Own t 5 y L.length LC/\Own t 5 z L.length MC/\aU dy 5 (rJ s.next (fun _=>False) y z) t (dB L) LC/\aU dy 5 (rJ s.next (fun _=>False) y z) t (gD L) MC/\aF s.next y/\aF s.next z/\ar s.next s t/\f.n=63/\f.get 0=x/\f.get 3=y/\f.get 4=z/\f.get 5= .bool (wv L))
  ⟨0,.slice none 0 0,.slice none 0 0,[],[],rfl,by omega,.nil,.nil,by rw[List.take_zero];exact aU.nil,by rw[List.take_zero];exact aU.nil,aF.nil _,aF.nil _,(fun j h=>by cases h),ar.refl _ _,by simp only[ag,hn],by simp only[ad,↓reduceIte,Qx,h0],by simp only[ad,↓reduceIte,Qx],by simp only[ad,↓reduceIte,Qx],by simp only[ad,↓reduceIte,Qx];rfl,by simp only[ad,↓reduceIte,Qx,true_and];rfl⟩ ?_ ?_
 ·clear hn h0 f
  rintro Q hQ q f s6 ⟨i,y,z,LC,MC,rfl,hi,hy,hz,hR,hM,kN,hzF,hyz,dY,hn,h0,h3,h4,h5,h8,h9,eX⟩
  have n6:=dY.next
  have WE:=hx.keeps dY
  by_cases bd:i<L.length
  rotate_left
  ·obtain rfl:i=L.length:=by omega
   rw[List.take_length] at hR hM h5
   have d1:¬((L.length:Nat):Int)<((L.length:Nat):Int):=by omega
   simp only[aj,ak,QS,↓reduceIte,hn,h9,eX,eq_false d1]
   exact hQ _ _ _ ⟨rfl,y,z,LC,MC,hy,hz,hR,hM,kN,hzF,dY,by simp only[ad,ag,↓reduceIte,Qx,hn,h0,h3,h4,h5,and_self]⟩
  have d1:(i:Int)<(L.length:Int):=by omega
  have gB:=WE.indexAddr (P:=Tryz.prog) (k:= .i64) (x:=(i:Int)) UK dp (by omega) (by omega)
  rw[Int.toNat_natCast] at gB
  have fz:=WE.fJ (P:=Tryz.prog) mi dp bd
  rw[tH bd] at fz
  obtain⟨l,hl⟩:∃l,l=L[i]:=⟨_,rfl⟩
  rw[<-hl] at fz
  have hlN:l.name.length<=100000:=hN l (by rw[hl];exact List.getElem_mem bd)
  have gY:bZ (fE l) (fE l)=true:=by simp[bZ,fp,cN,Lk.cells]
  have MX:bV Tryz.prog 58=some (fE ⟨0,0,0,[],0⟩):=by kernel_rfl
  have yp:bN (fE ⟨0,0,0,[],0⟩)=true:=by kernel_rfl
  simp only[aj,ak,QS,Qx,↓reduceIte,hn,h8,h9,eX,eq_true d1,gB,fz,MX,yp]
  refine aw ?_
  intro s7 uD jX rp
  have hd:∀l:Lk,l.cells.length+1=6:=fun _=>rfl
  simp only[aj,QS,Qx,↓reduceIte,hn,hd]
  refine aB dp (by decide) uD rfl rfl rfl rfl ?_
  intro s8 vd WG Jj
  have vd:ax s8 s6.next l.cells:=vd
  have iY:ar s6.next s6 s8:=jX.trans ⟨by omega,fun j hj=>Jj j (by omega)⟩
  have n8:=iY.next
  have Iv:=hy.iD
  have oK:=hz.iD
  have hy:=hy.keeps iY
  have hz:=hz.keeps iY
  have hR:=hR.keeps cK iY
  have hM:=hM.keeps cK iY
  simp only[aj]
  obtain⟨A,hA⟩:∃A:Nat->Bool,A=fun j=>decide (j<s8.next/\aI y≠some j):=⟨_,rfl⟩
  have iU:∀j,A j=true->j<s8.next:=by
   intro j h
   rw[hA] at h
   exact(of_decide_eq_true h).1
  have hA6:A s6.next=true:=by rw[hA];exact decide_eq_true ⟨by omega,fun e=>by have:=Iv _ e;omega⟩
  have hAy:∀j,aI y=some j->A j=false:=fun j e=>by rw[hA];exact decide_eq_false (fun h=>h.2 e)
  refine LB.cX.fi A iU 2 2 (by kernel_rfl) (by kernel_rfl) ?_
  have dC:=ar.spare s8 2
  have UD:(spare s8 2).next=s8.next+2:=bU _ _
  have oI:∀k,LA.ej A (some (.pointer (some ⟨s6.next,k,some 6⟩)))=true:=fun k=>LA.cr (A:=A) (i:=s6.next) hA6
  have l1:aJ Tryz.prog (spare s8 2) 9 (.pointer (some ⟨s6.next,3,some 6⟩))=some (.string ⟨l.name.toArray⟩):=(vd.keeps dC).load tp (off:=3) (c:=6) rfl (by simp[Lk.cells])
  simp only[aj,ak,bH,bI,Nat.add_one_sub_one,aa,ae,QS,Qx,↓reduceIte,hn,h3,zu,oI,l1,hy.self]
  refine(WZ (lib:=df) rfl (spare s8 2) l.name (by omega)).mono ?_
  rintro _ a ⟨ca,rfl,oa,ka⟩
  have ma:=ka.next
  refine⟨fun _=>LA.ar.yC iU (ka.weaken (by omega)),?_⟩
  have la:=oa.len
  try simp only[gi (cs:=ca.toArray) UO iL zO wD rfl la (by decide)]
  refine LB.cZ (base:=s8.next) la (by omega) (Nat.le_refl _) ?_
  intro u b hu gz kb nb ob
  have k8b:ar s8.next s8 b:=(dC.trans (ka.weaken (by omega))).trans kb
  have mb:=k8b.next
  obtain⟨E8,hE8⟩:∃E8:Nat->Prop,E8=fun j=>j=s8.next+1:=⟨_,rfl⟩
  have hR:=rJ.acS hR (n:=s8.next+1) (by omega)
  have hM:=rJ.acS hM (n:=s8.next+1) (by omega)
  rw[<-hE8] at hR hM
  have Y7:dy (rJ s.next E8 y z) b ca (mu l.name):=((oa.turns (u:= .pointer (some ⟨s8.next,0,none⟩)) (bt.aK nb ob) (fun j hj e=>by
   have e:some s8.next=some j:=e
   injection e with e;omega)).mono (fun j hj=>⟨by omega,fun e=>e.elim (fun e=>by rw[hE8] at e;omega) (fun e=>by have:=oK _ e;omega),fun e=>by have:=Iv _ e;omega⟩))
  simp only[aj,bI,aa,QS,Qx,↓reduceIte,hn]
  refine LB.iT UO UO (.inl ⟨_,rfl⟩) iL byO zO rfl (hy.keeps k8b) hu.aG.src la (by decide) Y7.ok (by omega) (by omega) (base:=s.next) kN (by omega) (fun _=>hAy) (fun j hj=>by have:=iU j hj;omega) ?_
  intro y' c hy' ajo EY ra
  have mc:=EY.next
  have hR' :=rJ.grow (hR.keeps cK k8b) la Y7 EY ra
  have hM' :=rJ.other (hM.keeps cK k8b) EY ra
  have It:∀j,aI y' =some j->aI y=some j\/b.next<=j:=fun j e=>by
   rcases ra with h|⟨k,h,h2⟩
   ·left;rw[<-h];exact e
   ·right;rw[h] at e;injection e with e;omega
  have vx:Own c 5 z i MC:=(hz.keeps k8b).turns EY (fun j e e2=>hyz j e2 e)
  have ajp:∀j,aI y' =some j->aI z≠some j:=fun j e e2=>by
   rcases It j e with h|h
   ·exact hyz j h e2
   ·have:=oK j e2;omega
  have SC:=(vd.keeps k8b).turns EY (fun e=>by have:=Iv _ e;omega)
  have la2:aJ Tryz.prog c 58 (.pointer (some ⟨s6.next,0,some 6⟩))=some (fE l):=ax.bF (P:=Tryz.prog) (cs:=l.cells) mi dp SC (c:=6) rfl
  simp only[aj,ak,bH,bI,Nat.sub_self,Nat.reduceSub,aa,ae,QS,Qx,↓reduceIte,hn,h4,oI,la2,gY,hz.self]
  refine(Ud c l).mono ?_
  rintro _ d ⟨cd,rfl,od,kd⟩
  have md:=kd.next
  have ld:=od.len
  refine⟨fun h=>absurd h (fun h=>h),?_⟩
  try simp only[gi (cs:=cd.toArray) UO iL zO wD rfl ld (by decide)]
  refine LB.cZ (base:=s8.next) ld (by omega) (by omega) ?_
  intro u2 e J4 qN ke ne oe
  have iu:=rJ.put (by rw[hE8] at hR';exact hR'.keeps cK kd) ne oe
  have hM2:=rJ.put (by rw[hE8] at hM';exact hM'.keeps cK kd) ne oe
  have cH:∀w,(∀j,aI w=some j->aI y=some j\/aI z=some j\/b.next<=j)->aI w≠some (s8.next+1):=fun w h q=>by
   rcases h _ q with h|h|h
   ·have:=Iv _ h;omega
   ·have:=oK _ h;omega
   ·omega
  have wQ:Own e 5 y' (i+1) (LC++ca):=(hy'.keeps kd).aK ne oe (cH _ (fun j q=>(It j q).imp id .inr))
  have Uw:Own e 5 z i MC:=(vx.keeps kd).aK ne oe (cH _ (fun j q=> .inr (.inl q)))
  have od2:dy (rJ s.next (fun _=>False) z y') e cd (eO l):=((od.turns (u:= .pointer (some ⟨s8.next+1,0,none⟩)) (bt.aK ne oe) (fun j hj q=>by
   have q:some (s8.next+1)=some j:=q
   injection q with q;omega)).mono (fun j hj=>⟨by omega,fun q=>q.elim id (fun q=>by have:=hy'.iD j q;omega),fun q=>by have:=oK _ q;omega⟩))
  simp only[aj,bI,aa,QS,Qx,↓reduceIte,hn]
  refine LB.iT UO UO (.inl ⟨_,rfl⟩) iL byO zO rfl Uw J4.aG.src ld (by decide) od2.ok (by omega) (by omega) (base:=s.next) hzF (by omega) (fun h=>absurd rfl h) (fun j hj=>by have:=iU j hj;omega) ?_
  intro z' g hz3 ajr htg ae8
  have hM3:=rJ.RG (rJ.grow (rJ.RG hM2) ld od2 htg ae8)
  have AQ:=rJ.RG (rJ.other (rJ.RG iu) htg ae8)
  have mg:=htg.next
  have ZS:Own g 5 y' (i+1) (LC++ca):=wQ.turns htg (fun j q=>ajp j q)
  have ajs:∀j,aI y' =some j->aI z' ≠some j:=fun j q q2=>by
   rcases ae8 with h|⟨k,h,h2⟩
   ·exact ajp j q (by rw[<-h];exact q2)
   ·rw[h] at q2;injection q2 with q2;have:=wQ.iD j q;omega
  have aoh:ax g s6.next l.cells:=((SC.keeps kd).aK ne oe (by omega)).turns htg (fun q=>by have:=oK _ q;omega)
  have k6g:ar s.next s g:=((((dY.trans (iY.weaken n6)).trans (k8b.weaken (by omega))).trans ((EY.keeps kN (by omega)).weaken (by omega))).trans (kd.weaken (by omega))).trans ((show ar s.next d e from⟨by omega,fun j hj=>oe j (by omega)⟩).trans (htg.keeps hzF (by omega)))
  have l7:aJ Tryz.prog g 3 (.pointer (some ⟨s6.next,0,some 6⟩))=some (.int .i64 l.p):=aoh.load bu (off:=0) (c:=6) rfl (by simp[Lk.cells])
  have ajt:wv (L.take (i+1))=(wv (L.take i)||decide (l.p≠1)):=by
   unfold wv
   rw[List.take_succ_eq_append_getElem bd,List.any_append,<-hl];simp
  have hnm:dB (L.take (i+1))=dB (L.take i)++[mu l.name]:=by
   unfold dB;rw[List.take_succ_eq_append_getElem bd,List.map_append,<-hl];rfl
  have hpm:gD (L.take (i+1))=gD (L.take i)++[eO l]:=by
   unfold gD;rw[List.take_succ_eq_append_getElem bd,List.map_append,<-hl];rfl
  rw[<-hnm] at AQ
  rw[<-hpm] at hM3
  cases ha:wv (L.take i) with
  |true=>
   rw[ha] at h5
   simp(disch:=omega)only[aj,ak,bH,bI,Nat.reduceSub,QS,Qx,↓reduceIte,undef,hn,h5,eX,aD,ZS.self,hz3.self]
   refine ay (L.length-(i+1)) (by omega) ⟨i+1,y',z',LC++ca,MC++cd,rfl,by omega,ZS,hz3,AQ,hM3,ajo,ajr,ajs,k6g,by simp only[ag,hn],by simp only[ad,↓reduceIte,Qx,h0],by simp only[ad,↓reduceIte,Qx],by simp only[ad,↓reduceIte,Qx],by simp only[ad,↓reduceIte,Qx,ajt,ha,Bool.true_or],by simp only[ad,↓reduceIte,Qx,h8],by simp only[ad,↓reduceIte,Qx,h9],by simp only[ad,↓reduceIte];rfl⟩
  |false=>
   rw[ha] at h5
   simp(disch:=omega)only[aj,ak,bH,bI,Nat.reduceSub,QS,Qx,↓reduceIte,hn,h5,eX,tJ,mZ,l7,aD,ZS.self,hz3.self]
   refine ay (L.length-(i+1)) (by omega) ⟨i+1,y',z',LC++ca,MC++cd,rfl,by omega,ZS,hz3,AQ,hM3,ajo,ajr,ajs,k6g,by simp only[ag,hn],by simp only[ad,↓reduceIte,Qx,h0],by simp only[ad,↓reduceIte,Qx],by simp only[ad,↓reduceIte,Qx],by simp only[ad,↓reduceIte,Qx,ajt,ha,Bool.false_or],by simp only[ad,↓reduceIte,Qx,h8],by simp only[ad,↓reduceIte,Qx,h9],by simp only[ad,↓reduceIte];rfl⟩
 clear hn h0 f
 rintro _ f t ⟨rfl,y,z,LC,MC,hy,hz,hR,hM,kN,hzF,aE,hn,h0,h3,h4,h5⟩
 have AA:=hx.keeps aE
 have nt:=aE.next
 have hNs:(dB L).length=L.length:=by simp[dB]
 have hPs:(gD L).length=L.length:=by simp[gD]
 by_cases c0:L.length=0
 ·have e0:L=[]:=List.eq_nil_of_length_eq_zero c0
  subst e0
  have d0:(((([]:List Lk).length:Nat)):Int)=0:=rfl
  simp only[aj,al,oneOf,aa,QS,↓reduceIte,hn,h0,AA.bm UK,eq_true d0,Tryz.results49]
  rw[fw]
  exact⟨[],.nil,aU.nil,aE⟩
 have d0:¬((L.length:Nat):Int)=0:=by omega
 by_cases c1:L.length=1
 ·obtain⟨l,rfl⟩:∃l,L=[l]:=List.length_eq_one_iff.1 c1
  have d1:((([l].length:Nat)):Int)=1:=rfl
  simp only[aj,aa,QS,Qx,↓reduceIte,hn,h0,AA.bm UK,eq_false d0,eq_true d1]
  obtain⟨A,hA⟩:∃A:Nat->Bool,A=fun j=>decide (j<t.next):=⟨_,rfl⟩
  have iU:∀j,A j=true->j<t.next:=by
   intro j h
   rw[hA] at h
   exact of_decide_eq_true h
  have vM:∀j,j<t.next->A j=true:=fun j h=>by rw[hA];exact decide_eq_true h
  refine LB.cX.fi A iU 1 1 (by kernel_rfl) (by kernel_rfl) ?_
  have dC:=ar.spare t 1
  have UD:(spare t 1).next=t.next+1:=bU _ _
  have NJ:=(hy.keeps dC).aG
  have Nj:=(hz.keeps dC).aG
  have ix:∀{v:Value} {l:List Value} {u:aq},aN u 5 v 1 l->bT Tryz.prog 23 v (.int .i64 0)=some (bc 5 v 0):=fun {v l u} h=>h.indexAddr (P:=Tryz.prog) (k:= .i64) (x:=0) UO iL (by decide) (by decide)
  have rn:=hR.row 0 (by simp[dB])
  have rm:=hM.row 0 (by simp[gD])
  have ldy:=NJ.fJ (P:=Tryz.prog) Hv iL (k:=0) (by simp)
  have ldz:∀u,ar t.next t u->aJ Tryz.prog u 26 (bc 5 z 0)=some (.agg ((MC.drop (0*5)).take 5).toArray):=fun u h=>(hz.keeps h).aG.fJ (P:=Tryz.prog) Hv iL (k:=0) (by simp)
  have rn:dy (rJ s.next (fun _=>False) y z) t ((LC.drop (0*5)).take 5) (mu l.name):=rn
  have rm:dy (rJ s.next (fun _=>False) y z) t ((MC.drop (0*5)).take 5) (eO l):=rm
  obtain⟨cn,S5⟩:∃cn,cn=(LC.drop (0*5)).take 5:=⟨_,rfl⟩
  obtain⟨cm,hcm⟩:∃cm,cm=(MC.drop (0*5)).take 5:=⟨_,rfl⟩
  rw[<-S5] at rn ldy
  rw[<-hcm] at rm ldz
  have hlN:=hN l (by simp)
  have hle:∀{v:Value} {l:List Value},aN t 5 v 1 l->LA.ej A (some (bc 5 v 0))=true:=fun {v l} h=>LA.m9 h vM (by decide)
  have aju:=hle hy.aG
  have ajv:=hle hz.aG
  simp only[aj,ak,bH,bI,Nat.sub_self,aa,QS,Qx,↓reduceIte,hn,h3,h4,hy.self,hz.self,ix NJ,ix Nj,aju,ldy,rn.self]
  refine(jD (lib:=df) rfl rfl rfl _ (spare t 1) bh cn _ (rn.keeps dC) (tV hlN)).mono ?_
  rintro _ a ⟨ca,rfl,oa,ka⟩
  have ma:=ka.next
  have la:=oa.len
  have kta:ar t.next t a:=dC.trans (ka.weaken (by omega))
  refine⟨fun _=>LA.ar.yC iU (ka.weaken (by omega)),?_⟩
  simp only[aj,ak,bH,bI,Nat.reduceSub,aa,ae,QS,Qx,↓reduceIte,hn,ajv,ldz _ kta,rm.self]
  refine(jD (lib:=df) rfl rfl rfl _ a cG cm _ (rm.keeps kta) (rI l)).mono ?_
  rintro _ b ⟨cb,rfl,ob,kb⟩
  have mb:=kb.next
  have lb:=ob.len
  refine⟨fun h=>absurd h (fun h=>h),?_⟩
  have sE:∀(k:List UInt8) (cs:List Value),cs.length=5->(Value.string ⟨k.toArray⟩::cs).length=6:=fun k cs h=>by rw[List.length_cons,h]
  try simp only[ak,H5 (a:=(.string ⟨bh.toArray⟩::ca).toArray) (b:=(.string ⟨cG.toArray⟩::cb).toArray) Tryz.underlying24 qq zE Td rfl (sE bh ca la) (sE cG cb lb) (by decide)]
  refine LB.cZ (base:=t.next) (by simp[la,lb]) (by omega) (Nat.le_refl _) ?_
  intro u c hu gz kc nc oc
  have ktc:ar t.next t c:=(kta.trans (kb.weaken (by omega))).trans kc
  have put:∀(k:List UInt8) (q:List Value) (o:O) (w:Nat) (v:aq),dy (fun j=>w<=j) v q o->t.next+1<=w->ar v.next v b->k.length<=9223372036854775807->dz (fun j=>s.next<=j) c (.string ⟨k.toArray⟩::q) (k,o):=fun k q o w v ho hb hu hk=>⟨q,rfl,((ho.keeps hu).turns (u:= .pointer (some ⟨t.next,0,none⟩)) (bt.aK nc oc) (fun j hj e=>by
   have e:some t.next=some j:=e
   injection e with e;omega)).mono (fun j hj=>by omega),hk⟩
  have rows:=aU.two (F:=fun j=>s.next<=j) (s:=c) (sE bh ca la) (put bh ca _ _ _ oa (by omega) kb (by decide)) (sE cG cb lb) (put cG cb _ _ _ ob (by omega) (ar.refl _ _) (by decide))
  simp only[aj,al,oneOf,QS,↓reduceIte,aj,bH,bI,oneOf,QS,↓reduceIte,hn,hu.self,Tryz.results49]
  rw[fw]
  exact⟨_,hu.aG,rows,aE.trans (ktc.weaken nt)⟩
 have d1:¬((L.length:Nat):Int)=1:=by omega
 obtain⟨l1,l2,r,hLr⟩:∃l1 l2 r,L=l1::l2::r:=by
  cases L with
  |nil=>exact absurd rfl c0
  |cons a L=>cases L with
   |nil=>exact absurd rfl c1
   |cons b L=>exact⟨a,b,L,rfl⟩
 have eE:kV L=if wv L then [(bh,rH (dB L)),(cG,rH (gD L))] else [(bh,rH (dB L))]:=by rw[hLr];rfl
 have sN:∀o∈dB L,Small o:=yo hN
 have sP:∀o∈gD L,Small o:=A3 L
 have sAn:Small (rH (dB L)):= .mk (by simp) (by omega) (by simp) (fun e h=>by cases h) sN (fun e h=>by cases h)
 have sAp:Small (rH (gD L)):= .mk (by simp) (by omega) (by simp) (fun e h=>by cases h) sP (fun e h=>by cases h)
 have sE:∀(k:List UInt8) (cs:List Value),cs.length=5->(Value.string ⟨k.toArray⟩::cs).length=6:=fun k cs h=>by rw[List.length_cons,h]
 have toE:∀(k:List UInt8) (q:List Value) (o:O) (w:Nat) (v c:aq),dy (fun j=>w<=j) v q o->s.next<=w->ar v.next v c->k.length<=9223372036854775807->dz (fun j=>s.next<=j) c (.string ⟨k.toArray⟩::q) (k,o):=fun k q o w v c ho hb hu hk=>⟨q,rfl,(ho.keeps hu).mono (fun j hj=>by omega),hk⟩
 cases ha:wv L with
 |true=>
  rw[ha] at h5
  simp only[aj,ak,aa,QS,Qx,↓reduceIte,hn,h0,h3,h5,AA.bm UK,eq_false d0,eq_false d1]
  refine(Jq (lib:=df) rfl rfl rfl _ t y (dB L) LC (by rw[hNs];exact hy.aG) hR (by omega) sN).mono ?_
  rintro _ a ⟨ca,rfl,oa,ka⟩
  have ma:=ka.next
  simp only[aj,ak,aa,QS,↓reduceIte,hn]
  refine(jD (lib:=df) rfl rfl rfl _ a bh ca _ oa sAn).mono ?_
  rintro _ b ⟨cb,rfl,ob,kb⟩
  have mb:=kb.next
  have lb:=ob.len
  have ktb:ar t.next t b:=ka.trans (kb.weaken (by omega))
  simp only[aj,ak,aa,QS,Qx,↓reduceIte,hn,h4]
  refine(Jq (lib:=df) rfl rfl rfl _ b z (gD L) MC (by rw[hPs];exact(hz.keeps ktb).aG) (hM.keeps cK ktb) (by omega) sP).mono ?_
  rintro _ c ⟨cc,rfl,oc,kc⟩
  have mc:=kc.next
  simp only[aj,ak,aa,QS,↓reduceIte,hn]
  refine(jD (lib:=df) rfl rfl rfl _ c cG cc _ oc sAp).mono ?_
  rintro _ d ⟨cd,rfl,od,kd⟩
  have md:=kd.next
  have ld:=od.len
  simp only[aj,ak,ae,QS,Qx,↓reduceIte,hn,H5 (a:=(.string ⟨bh.toArray⟩::cb).toArray) (b:=(.string ⟨cG.toArray⟩::cd).toArray) Tryz.underlying24 qq zE Td rfl (sE bh cb lb) (sE cG cd ld) (by decide)]
  refine aQ (by simp[lb,ld]) ?_
  intro u e hu hF ke
  simp only[aj,al,oneOf,QS,↓reduceIte,hn,Tryz.results49]
  rw[fw,eE,ha]
  have rows:=aU.two (F:=fun j=>s.next<=j) (s:=e) (sE bh cb lb) (toE bh cb _ _ _ _ ob (by omega) ((kc.trans (kd.weaken (by omega))).trans (ke.weaken (by omega))) (by decide)) (sE cG cd ld) (toE cG cd _ _ _ _ od (by omega) ke (by decide))
  exact⟨_,hu.aG,rows,aE.trans ((((ktb.trans (kc.weaken (by omega))).trans (kd.weaken (by omega))).trans (ke.weaken (by omega))).weaken nt)⟩
 |false=>
  rw[ha] at h5
  simp only[aj,ak,aa,QS,Qx,↓reduceIte,hn,h0,h3,h5,AA.bm UK,eq_false d0,eq_false d1]
  refine(Jq (lib:=df) rfl rfl rfl _ t y (dB L) LC (by rw[hNs];exact hy.aG) hR (by omega) sN).mono ?_
  rintro _ a ⟨ca,rfl,oa,ka⟩
  have ma:=ka.next
  simp only[aj,ak,aa,QS,↓reduceIte,hn]
  refine(jD (lib:=df) rfl rfl rfl _ a bh ca _ oa sAn).mono ?_
  rintro _ b ⟨cb,rfl,ob,kb⟩
  have mb:=kb.next
  have lb:=ob.len
  simp only[aj,ae,QS,↓reduceIte,hn,gi (cs:=(.string ⟨bh.toArray⟩::cb).toArray) Tryz.underlying24 qq zE Td rfl (sE bh cb lb) (by decide)]
  refine aQ (by simp[lb]) ?_
  intro u e hu hF ke
  simp only[aj,al,oneOf,QS,↓reduceIte,hn,Tryz.results49]
  rw[fw,eE,ha]
  have rows:=aU.one (F:=fun j=>s.next<=j) (s:=e) (sE bh cb lb) (toE bh cb _ _ _ _ ob (by omega) ke (by decide))
  exact⟨_,hu.aG,rows,aE.trans (((ka.trans (kb.weaken (by omega))).trans (ke.weaken (by omega))).weaken nt)⟩
end Go.Proofs.YtdfjfncifneocaaGreat
namespace Go.Cl
theorem dy.H8 {F:Nat->Prop}{s:aq}{cs:List Value}{o:O}(h:dy F s cs o):cs.getD 0 undef= .int .i64 o.kind/\cs.getD 1 undef= .int .i64 o.num:=by
 cases o with
 |mk k n b l d=>obtain⟨bv,lv,dv,lc,dc,rfl,-⟩:=h.parts;exact⟨rfl,rfl⟩
theorem ax.MY {s s' :aq}{i jl jo:Nat}{cs:List Value}(h:ax s i cs)(hn:s.next<=s'.next)(hg:∀j,j<s.next->j≠jl->j≠jo->s'.heap.get j=s.heap.get j)(h1:i≠jl)(h2:i≠jo):ax s' i cs:=by
 obtain⟨low,z,b1,b2⟩:=h.dZ
 exact⟨Nat.lt_of_lt_of_le h.lt hn,low,z,by simp only[aq.bR,hg _ h.lt h1 h2];exact b1,b2⟩
end Go.Cl
namespace Go.Cl.Ch
open Go.Cl.Pr
def EO:List UInt8:=[69,97,114,108,121,67,104,97,110,103,101]
def ez (o:O)(k:List UInt8)(d:Int):Int×Bool:=if(fV o k).kind=0 then(d,true) else((fV o k).num,decide ((fV o k).kind=2))
def se (n p:O):Lk:=⟨(ez p sd 1).1,(ez p jQ 1).1,(ez p gO 1).1,n.bytes,(ez p EO 1).1⟩
def RH (p:O):Bool:=(ez p sd 1).2&&(ez p jQ 1).2&&(ez p gO 1).2&&(ez p EO 1).2
def A4 (n p:O):Bool:=(RH p&&decide (oC (se n p).p (se n p).co (se n p).cl))&&decide ((se n p).early=1)&&(decide ((se n p).p=1)||(ez p r9 8).2&&decide ((ez p r9 8).1=8))
def o8 (n p:O):Lk×Bool:=if n.kind≠5\/p.kind≠0/\p.kind≠7 then(⟨0,0,0,[],0⟩,false) else(se n p,A4 n p)
end Go.Cl.Ch
namespace Go.Proofs.YtdfjfncifneocaaGreat
open Go.Cl Go.Cl.Pr Go.Cl.Ch
theorem EP (F:Nat->Prop)(s:aq)(cs:List Value)(o:O)(ho:dy F s cs o)(nM:Small o)(k:List UInt8):Runs Tryz.prog df 61 [.agg cs.toArray,.string ⟨k.toArray⟩] s (lK s (fV o k)):=aaB rfl rfl rfl rfl rfl F s cs o ho nM k
theorem H9 (F:Nat->Prop)(s:aq)(cs:List Value)(o:O)(ho:dy F s cs o)(nM:Small o)(k:List UInt8)(d:Int):
  Runs Tryz.prog df 63 [.agg cs.toArray,.string ⟨k.toArray⟩,.int .i64 d] s fun v s' =>v= .tuple #[.int .i64 (ez o k d).1,.bool (ez o k d).2]/\ar s.next s s' :=by
 have jS:=ho.len
 refine Runs.enter 21 Tryz.func63 rfl rfl rfl rfl ?_
 intro f hn hf
 have h0:f.get 0= .agg cs.toArray:=hf 0
 have h1:f.get 1= .string ⟨k.toArray⟩:=hf 1
 have h2:f.get 2= .int .i64 d:=hf 2
 clear hf
 have mh:de.length+1=6:=rfl
 simp only[aj,QS,↓reduceIte,hn,h0]
 refine aw ?_
 intro s1 eK bn iV
 simp only[aj,ak,aa,QS,Qx,Nat.reduceAdd,↓reduceIte,hn,h1,jS,ax.gl eK jS]
 refine(EP F s1 cs o (ho.keeps bn) nM k).mono ?_
 rintro _ s2 ⟨c2,rfl,fN,k2⟩
 have n1:=bn.next
 have n2:=k2.next
 simp only[aj,QS,↓reduceIte,hn,zO,wD]
 refine aw ?_
 intro s3 jM bC Dw
 simp only[aj,QS,Qx,↓reduceIte,hn,mh]
 refine aB iL (by decide) jM rfl rfl fN.len fN.ok ?_
 intro s4 gv vY vh
 have gv:ax s4 s2.next c2:=gv
 have dX:ar s.next s s4:=((bn.trans (k2.weaken n1)).trans (bC.weaken (by omega))).trans ⟨by omega,fun j hj=>vh j (by omega)⟩
 obtain⟨q0,q1⟩:=dy.H8 fN
 have l0:aJ Tryz.prog s4 3 (.pointer (some ⟨s2.next,0,some 6⟩))=some (.int .i64 (fV o k).kind):=by
  have:=gv.load (P:=Tryz.prog) bu (off:=0) (c:=6) (by rw[fN.len]) (by rw[fN.len];omega)
  rw[this,q0]
 have l1:aJ Tryz.prog s4 2 (.pointer (some ⟨s2.next,1,some 6⟩))=some (.int .i64 (fV o k).num):=by
  have:=gv.load (P:=Tryz.prog) acb (off:=1) (c:=6) (by rw[fN.len]) (by rw[fN.len];omega)
  rw[this,q1]
 by_cases c0:(fV o k).kind=0
 ·simp only[aj,al,oneOf,QS,Qx,↓reduceIte,hn,h2,F2,l0,c0,Tryz.results63]
  exact⟨by unfold ez;rw[if_pos c0],dX⟩
 ·simp only[aj,al,oneOf,QS,Qx,↓reduceIte,hn,F2,of1,l0,l1,decide_eq_false c0,Tryz.results63]
  exact⟨by unfold ez;rw[if_neg c0],dX⟩
theorem yq (F:Nat->Prop)(s:aq)(cs:List Value)(o:O)(ho:dy F s cs o)(nM:Small o)(k:List UInt8)(d:Int)(jl jp jo m:Nat)(lc:List Value)(b:Bool)(h5:lc.length=5)(hm:m<5)(hl:ax s jl lc)(hp:ax s jp cs)(hb:ax s jo [.bool b])(cH:jl≠jo):
  Runs Tryz.prog df 62 [.pointer (some ⟨jl,m,some 6⟩),.string ⟨k.toArray⟩,.int .i64 d,.pointer (some ⟨jp,0,some 6⟩),.pointer (some ⟨jo,0,some 2⟩)] s fun v s' =>v= .tuple #[]/\ax s' jl (lc.set m (.int .i64 (ez o k d).1))/\ax s' jo [.bool (b&&(ez o k d).2)]/\s.next<=s'.next/\∀j,j<s.next->j≠jl->j≠jo->s'.heap.get j=s.heap.get j:=by
 have jS:=ho.len
 refine Runs.enter 24 Tryz.func62 rfl rfl rfl rfl ?_
 intro f hn hf
 have h0:f.get 0= .pointer (some ⟨jl,m,some 6⟩):=hf 0
 have h1:f.get 1= .string ⟨k.toArray⟩:=hf 1
 have h2:f.get 2= .int .i64 d:=hf 2
 have h3:f.get 3= .pointer (some ⟨jp,0,some 6⟩):=hf 3
 have h4:f.get 4= .pointer (some ⟨jo,0,some 2⟩):=hf 4
 clear hf
 have lp:=ax.gl hp jS
 simp only[aj,ak,aa,QS,Qx,↓reduceIte,hn,h1,h2,h3,lp]
 refine(H9 F s cs o ho nM k d).mono ?_
 rintro _ s1 ⟨rfl,k1⟩
 have jn:=hl.keeps k1
 have gL:=hb.keeps k1
 have n1:=k1.next
 obtain⟨R,hR⟩:∃R,R=ez o k d:=⟨_,rfl⟩
 rw[<-hR]
 have x0:ba (.tuple #[.int .i64 R.1,.bool R.2]) 0=some (.int .i64 R.1):=rfl
 have x1:ba (.tuple #[.int .i64 R.1,.bool R.2]) 1=some (.bool R.2):=rfl
 simp only[aj,QS,Qx,↓reduceIte,hn,x0,x1]
 obtain⟨A,hA⟩:∃A:Nat->Bool,A=fun j=>decide (j<s1.next/\j≠jl):=⟨_,rfl⟩
 have iU:∀j,A j=true->j<s1.next:=by
  intro j h
  rw[hA] at h
  exact(of_decide_eq_true h).1
 have hAj:A jl=false:=by rw[hA];exact decide_eq_false (fun h=>h.2 rfl)
 have vM:A jo=true:=by rw[hA];exact decide_eq_true ⟨gL.lt,Ne.symm cH⟩
 refine LB.cX.fi A iU 1 0 (by kernel_rfl) (by kernel_rfl) ?_
 have dC:=ar.spare s1 0
 have UD:(spare s1 0).next=s1.next+0:=bU _ _
 have oI:∀k,LA.ej A (some (.pointer (some ⟨jo,k,some 2⟩)))=true:=fun k=>LA.cr (A:=A) (i:=jo) vM
 have l4:aJ Tryz.prog (spare s1 0) 4 (.pointer (some ⟨jo,0,some 2⟩))=some (.bool b):=(gL.keeps dC).load O4 (off:=0) (c:=2) rfl (by simp)
 have g7:=jn.keeps dC
 have dI:=gL.keeps dC
 have fin:∀(c:Bool) (T1 T2:aq),ax T1 jl (over lc m [.int .i64 R.1])->T1.next=(spare s1 0).next->(∀j,j≠jl->T1.heap.get j=(spare s1 0).heap.get j)->ax T2 jo [.bool c]->T2.next=T1.next->(∀j,j≠jo->T2.heap.get j=T1.heap.get j)->ax T2 jl (lc.set m (.int .i64 R.1))/\ax T2 jo [.bool c]/\s.next<=T2.next/\∀j,j<s.next->j≠jl->j≠jo->T2.heap.get j=s.heap.get j:=by
  intro c T1 T2 a1 a2 a3 b1 b2 b3
  have e:over lc m [.int .i64 R.1]=lc.set m (.int .i64 R.1):=by
   unfold over;rw[List.set_eq_take_append_cons_drop,if_pos (by omega)];simp
  rw[e] at a1
  refine⟨a1.aK b2 b3 cH,b1,by omega,fun j hj h1 h2=> ?_⟩
  rw[b3 j h2,a3 j h1,dC.get j (by omega),k1.get j hj]
 cases b with
 |true=>
  simp only[aj,ak,bH,bI,QS,Qx,↓reduceIte,hn,h0,h4,oI,l4]
  refine LB.fj (m:=1) bA (by decide) g7 (by omega) rfl rfl (by omega) rfl (fun _=>hAj) ?_
  intro T1 a1 a2 a3
  simp only[aj,bI,Nat.sub_self,QS,Qx,↓reduceIte,hn,h4]
  refine LB.fj (m:=1) zx (by decide) (dI.aK a2 a3 (Ne.symm cH)) rfl rfl rfl (by decide) rfl (fun h=>absurd rfl h) ?_
  intro T2 b1 b2 b3
  simp only[aj,ah,oneOf,aj,bI,Nat.reduceSub,oneOf,Tryz.results62]
  exact fin _ T1 T2 a1 a2 a3 b1 b2 b3
 |false=>
  simp only[aj,ak,bH,bI,QS,Qx,↓reduceIte,hn,h0,h4,oI,l4]
  refine LB.fj (m:=1) bA (by decide) g7 (by omega) rfl rfl (by omega) rfl (fun _=>hAj) ?_
  intro T1 a1 a2 a3
  simp only[aj,bI,Nat.sub_self,QS,Qx,↓reduceIte,hn,h4]
  refine LB.fj (m:=1) zx (by decide) (dI.aK a2 a3 (Ne.symm cH)) rfl rfl rfl (by decide) rfl (fun h=>absurd rfl h) ?_
  intro T2 b1 b2 b3
  simp only[aj,ah,oneOf,aj,bI,Nat.reduceSub,oneOf,Tryz.results62]
  exact fin _ T1 T2 a1 a2 a3 b1 b2 b3
theorem Yb (F G:Nat->Prop)(s:aq)(cn cs:List Value)(n o:O)(hN:dy F s cn n)(hO:dy G s cs o)(nM:Small o):
  Runs Tryz.prog df 32 [.agg cn.toArray,.agg cs.toArray] s fun v s' =>v= .tuple #[fE (o8 n o).1,.bool (o8 n o).2]/\ar s.next s s' :=by
 have S5:=hN.len
 have jS:=hO.len
 obtain⟨QQ,fw⟩:∃QQ:Value->aq->Prop,QQ=fun v s' =>v= .tuple #[fE (o8 n o).1,.bool (o8 n o).2]/\ar s.next s s' :=⟨_,rfl⟩
 rw[<-fw]
 refine Runs.enter 75 Tryz.func32 rfl rfl rfl rfl ?_
 intro f hn hf
 have h0:f.get 0= .agg cn.toArray:=hf 0
 have h1:f.get 1= .agg cs.toArray:=hf 1
 clear hf
 have mh:(⟨0,0,0,[],0⟩:Lk).cells.length+1=6:=rfl
 have MX:bV Tryz.prog 58=some (fE ⟨0,0,0,[],0⟩):=by kernel_rfl
 have yp:bN (fE ⟨0,0,0,[],0⟩)=true:=by kernel_rfl
 simp only[aj,QS,↓reduceIte,hn,h0]
 refine aw ?_
 intro s1 eK bn iV
 simp only[aj,QS,Qx,Nat.reduceAdd,↓reduceIte,hn,h1,S5]
 refine aw ?_
 intro s2 dD aR m8
 simp only[aj,QS,Nat.reduceAdd,↓reduceIte,hn,jS,MX,yp]
 refine aw ?_
 intro s3 jM bC Dw
 have jM:ax s3 s2.next (⟨0,0,0,[],0⟩:Lk).cells:=jM
 have n1:=bn.next
 have n2:=aR.next
 have n3:=bC.next
 have fB:ar s.next s s3:=(bn.trans (aR.weaken n1)).trans (bC.weaken (by omega))
 have eK:=eK.keeps (aR.trans (bC.weaken n2))
 have dD:=dD.keeps bC
 obtain⟨a0,-⟩:=dy.H8 hN
 obtain⟨b0,-⟩:=dy.H8 hO
 have l1:aJ Tryz.prog s3 3 (.pointer (some ⟨s.next,0,some 6⟩))=some (.int .i64 n.kind):=by
  have:=eK.load (P:=Tryz.prog) bu (off:=0) (c:=6) (by omega) (by omega)
  rw[this,a0]
 have l2:aJ Tryz.prog s3 3 (.pointer (some ⟨s1.next,0,some 6⟩))=some (.int .i64 o.kind):=by
  have:=dD.load (P:=Tryz.prog) bu (off:=0) (c:=6) (by omega) (by omega)
  rw[this,b0]
 have bz:cC Tryz.prog 58 []=some (fE ⟨0,0,0,[],0⟩):=by kernel_rfl
 by_cases c1:n.kind≠5\/o.kind≠0/\o.kind≠7
 ·have e:o8 n o=(⟨0,0,0,[],0⟩,false):=by unfold o8;rw[if_pos c1]
  have fin:∀s4:aq,ax s4 s2.next (fE ⟨0,0,0,[],0⟩).cells.toList->s4.next=s3.next->(∀j,j≠s2.next->s4.heap.get j=s3.heap.get j)->aJ Tryz.prog s4 58 (.pointer (some ⟨s2.next,0,some 6⟩))=some (fE ⟨0,0,0,[],0⟩)/\ar s.next s s4:=fun s4 h1 h2 h3=>⟨ax.bF (P:=Tryz.prog) (cs:=(⟨0,0,0,[],0⟩:Lk).cells) mi dp h1 (c:=6) rfl,fB.trans ⟨by omega,fun j hj=>h3 j (by omega)⟩⟩
  by_cases c5:n.kind=5
  ·obtain⟨c2,c3⟩:o.kind≠0/\o.kind≠7:=c1.elim (fun h=>absurd c5 h) id
   simp only[aj,ak,ae,QS,Qx,↓reduceIte,hn,mh,F2,l1,l2,bz,decide_not,c5,decide_eq_false c2,decide_eq_false c3]
   refine aB dp (by decide) jM rfl rfl rfl rfl ?_
   intro s4 gv vY vh
   obtain⟨e1,e2⟩:=fin s4 gv vY vh
   simp only[aj,al,oneOf,QS,Qx,↓reduceIte,hn,aV,e1,Tryz.results32]
   rw[fw,e]
   exact⟨rfl,e2⟩
  ·simp only[aj,ak,ae,QS,Qx,↓reduceIte,undef,hn,mh,F2,l1,bz,decide_not,decide_eq_false c5]
   refine aB dp (by decide) jM rfl rfl rfl rfl ?_
   intro s4 gv vY vh
   obtain⟨e1,e2⟩:=fin s4 gv vY vh
   simp only[aj,al,oneOf,QS,Qx,↓reduceIte,hn,aV,e1,Tryz.results32]
   rw[fw,e]
   exact⟨rfl,e2⟩
 have c5:n.kind=5:=Classical.byContradiction fun h=>c1 (.inl h)
 have c7:o.kind=0\/o.kind=7:=Classical.byContradiction fun h=>c1 (.inr ⟨fun e=>h (.inl e),fun e=>h (.inr e)⟩)
 have e:o8 n o=(se n o,A4 n o):=by unfold o8;rw[if_neg c1]
 obtain⟨bv,zq,oA⟩:∃bv,cn.getD 2 undef=bv/\aN s 1 bv n.bytes.length (ofBytes n.bytes):=by
  cases n with
  |mk k m b l d=>obtain⟨bv,lv,dv,lc,dc,rfl,h1,-⟩:=hN.parts;exact⟨bv,rfl,h1⟩
 have l3:aJ Tryz.prog s3 22 (.pointer (some ⟨s.next,2,some 6⟩))=some bv:=by
  have:=eK.load (P:=Tryz.prog) fU (off:=2) (c:=6) (by omega) (by omega)
  rw[this,zq]
 have aol:=(oA.keeps fB).str (P:=Tryz.prog) Tryz.underlying22 Tryz.underlying9 Tryz.underlying5
 have bl:cC Tryz.prog 58 [(1,.string ⟨n.bytes.toArray⟩)]=some (fE ⟨0,0,0,n.bytes,0⟩):=by kernel_rfl
 have zB:bV Tryz.prog 4=some (.bool false):=by kernel_rfl
 simp only[aj,ak,QS,Qx,↓reduceIte,hn,mh,F2,l1,c5]
 generalize hK:rP Tryz.prog df (Code.seq (Code.region 3 _ _) _) _=K
 have go:∀f:aW,f.n=75->f.get 2= .pointer (some ⟨s.next,0,some 6⟩)->f.get 3= .pointer (some ⟨s1.next,0,some 6⟩)->f.get 4= .pointer (some ⟨s2.next,0,some 6⟩)->K .normal f s3:=by
  clear hn h0 h1 f
  intro f hn h2 h3 h4
  subst hK
  simp only[aj,ae,QS,↓reduceIte,hn,h2,of2,l3,aol,bl,MX,yp]
  refine aw ?_
  intro s4 gv dX sl
  have gv:ax s4 s3.next (⟨0,0,0,[],0⟩:Lk).cells:=gv
  simp only[aj,QS,Qx,↓reduceIte,hn,mh]
  refine aB dp (by decide) gv rfl rfl rfl rfl ?_
  intro s5 wE hn5 Nv
  have wE:ax s5 s3.next (⟨0,0,0,n.bytes,0⟩:Lk).cells:=wE
  have n4:=dX.next
  have hk5:ar s3.next s3 s5:=dX.trans ⟨by omega,fun j hj=>Nv j (by omega)⟩
  simp only[aj,zB]
  refine aw ?_
  intro s6 Q5 dY aej
  have Q5:ax s6 s5.next [.bool false]:=Q5
  have n6:=dY.next
  simp only[aj,QS,↓reduceIte,hn]
  refine aY zx Q5 rfl (by decide) rfl ?_
  intro s7 uD hn7 hs7
  have uD:ax s7 s5.next [.bool true]:=uD
  have hk7:ar s3.next s3 s7:=(hk5.trans (dY.weaken (by omega))).trans ⟨by omega,fun j hj=>hs7 j (by omega)⟩
  have zt:ax s7 s3.next (⟨0,0,0,n.bytes,0⟩:Lk).cells:=(wE.keeps dY).aK hn7 hs7 (by omega)
  have hp7:=dD.keeps hk7
  have vC:(Value.bool false).cells.toList.length+1=2:=rfl
  have hz7:ar s.next s s7:=fB.trans (hk7.weaken (by omega))
  have hq7:=jM.keeps hk7
  have hb7:=uD
  obtain⟨w1,hw1⟩:∃w,w=ez o sd 1:=⟨_,rfl⟩
  obtain⟨w2,Tj⟩:∃w,w=ez o jQ 1:=⟨_,rfl⟩
  obtain⟨w3,Nt⟩:∃w,w=ez o gO 1:=⟨_,rfl⟩
  obtain⟨w4,Lr⟩:∃w,w=ez o EO 1:=⟨_,rfl⟩
  obtain⟨w5,hw5⟩:∃w,w=ez o r9 8:=⟨_,rfl⟩
  simp only[aj,ak,aa,QS,Qx,↓reduceIte,hn,h3,vC,ru,tJ,mZ]
  refine(yq G s7 cs o (hO.keeps hz7) nM sd 1 s3.next s1.next s5.next 0 (⟨0,0,0,n.bytes,0⟩:Lk).cells true rfl (by decide) zt hp7 hb7 (by omega)).mono ?_
  rintro _ s8 ⟨rfl,Js,hb8,SM,hg8⟩
  rw[<-hw1] at Js hb8
  have hp8:ax s8 s1.next cs:=hp7.MY SM hg8 (by omega) (by omega)
  have ha8:ar s.next s s8:=hz7.trans ⟨by omega,fun j hj=>hg8 j (by omega) (by omega) (by omega)⟩
  have hz8:=ha8
  have vd:ax s8 s2.next _:=hq7.MY SM hg8 (by omega) (by omega)
  have hq8:=vd
  have Js:ax s8 s3.next (⟨w1.1,0,0,n.bytes,0⟩:Lk).cells:=Js
  simp only[aj,ak,aa,QS,Qx,↓reduceIte,hn,tJ,Bb]
  refine(yq G s8 cs o (hO.keeps hz8) nM jQ 1 s3.next s1.next s5.next 1 (⟨w1.1,0,0,n.bytes,0⟩:Lk).cells (true&&w1.2) rfl (by decide) Js hp8 hb8 (by omega)).mono ?_
  rintro _ s9 ⟨rfl,hl9,hb9,hn9,hg9⟩
  rw[<-Tj] at hl9 hb9
  have hp9:ax s9 s1.next cs:=hp8.MY hn9 hg9 (by omega) (by omega)
  have ha9:ar s.next s s9:=hz8.trans ⟨by omega,fun j hj=>hg9 j (by omega) (by omega) (by omega)⟩
  have hz9:=ha9
  have ht9:ax s9 s2.next _:=hq8.MY hn9 hg9 (by omega) (by omega)
  have hq9:=ht9
  have hl9:ax s9 s3.next (⟨w1.1,w2.1,0,n.bytes,0⟩:Lk).cells:=hl9
  simp only[aj,ak,aa,QS,Qx,↓reduceIte,hn,tJ,FK]
  refine(yq G s9 cs o (hO.keeps hz9) nM gO 1 s3.next s1.next s5.next 2 (⟨w1.1,w2.1,0,n.bytes,0⟩:Lk).cells ((true&&w1.2)&&w2.2) rfl (by decide) hl9 hp9 hb9 (by omega)).mono ?_
  rintro _ vf ⟨rfl,Yc,ae9,afa,afb⟩
  rw[<-Nt] at Yc ae9
  have ajx:ax vf s1.next cs:=hp9.MY afa afb (by omega) (by omega)
  have aor:ar s.next s vf:=hz9.trans ⟨by omega,fun j hj=>afb j (by omega) (by omega) (by omega)⟩
  have ajy:=aor
  have PM:ax vf s2.next _:=hq9.MY afa afb (by omega) (by omega)
  have aos:=PM
  have Yc:ax vf s3.next (⟨w1.1,w2.1,w3.1,n.bytes,0⟩:Lk).cells:=Yc
  simp only[aj,ak,aa,QS,Qx,↓reduceIte,hn,W3]
  refine(yq G vf cs o (hO.keeps ajy) nM EO 1 s3.next s1.next s5.next 4 (⟨w1.1,w2.1,w3.1,n.bytes,0⟩:Lk).cells (((true&&w1.2)&&w2.2)&&w3.2) rfl (by decide) Yc ajx ae9 (by omega)).mono ?_
  rintro _ s11 ⟨rfl,Yd,afc,ajz,afd⟩
  rw[<-Lr] at Yd afc
  have aot:ax s11 s1.next cs:=ajx.MY ajz afd (by omega) (by omega)
  have aou:ar s.next s s11:=ajy.trans ⟨by omega,fun j hj=>afd j (by omega) (by omega) (by omega)⟩
  have afe:=aou
  have aov:ax s11 s2.next _:=aos.MY ajz afd (by omega) (by omega)
  have aow:=aov
  have Yd:ax s11 s3.next (⟨w1.1,w2.1,w3.1,n.bytes,w4.1⟩:Lk).cells:=Yd
  have lp:=ax.gl aot jS
  simp only[aj,ak,aa,QS,Qx,↓reduceIte,hn,h3,lp]
  refine(H9 G s11 cs o (hO.keeps afe) nM r9 8).mono ?_
  rintro _ yF ⟨rfl,k12⟩
  rw[<-hw5]
  have x0:ba (.tuple #[.int .i64 w5.1,.bool w5.2]) 0=some (.int .i64 w5.1):=rfl
  have x1:ba (.tuple #[.int .i64 w5.1,.bool w5.2]) 1=some (.bool w5.2):=rfl
  simp only[aj,QS,Qx,↓reduceIte,hn,x0,x1]
  obtain⟨ok,dH⟩:∃ok,ok=((((true&&w1.2)&&w2.2)&&w3.2)&&w4.2):=⟨_,rfl⟩
  obtain⟨l,hl⟩:∃l:Lk,l=⟨w1.1,w2.1,w3.1,n.bytes,w4.1⟩:=⟨_,rfl⟩
  have hQl:se n o=l:=by unfold se;rw[<-hw1,<-Tj,<-Nt,<-Lr,hl]
  have hU:A4 n o=((ok&&decide (oC l.p l.co l.cl))&&decide (l.early=1)&&(decide (l.p=1)||w5.2&&decide (w5.1=8))):=by
   unfold A4;rw[hQl,<-hw5];unfold RH;rw[<-hw1,<-Tj,<-Nt,<-Lr,dH,Bool.true_and]
  have abo:ax s11 s3.next l.cells:=by rw[hl];exact Yd
  have abp:ax s11 s5.next [.bool ok]:=by rw[dH];exact afc
  have abo:=abo.keeps k12
  have abp:=abp.keeps k12
  have aeX:=aow.keeps k12
  have abq:=afe.trans (k12.weaken afe.next)
  clear zt Js hl9 Yc Yd hb7 hb8 hb9 ae9 afc
  obtain⟨A,hA⟩:∃A:Nat->Bool,A=fun j=>decide (j<yF.next):=⟨_,rfl⟩
  have iU:∀j,A j=true->j<yF.next:=by
   intro j h
   rw[hA] at h
   exact of_decide_eq_true h
  have hA3:A s3.next=true:=by rw[hA];exact decide_eq_true abo.lt
  have hA5:A s5.next=true:=by rw[hA];exact decide_eq_true abp.lt
  refine LB.cX.fi A iU 1 0 (by kernel_rfl) (by kernel_rfl) ?_
  have dC:=ar.spare yF 0
  have UD:(spare yF 0).next=yF.next+0:=bU _ _
  have lo3:∀k,LA.ej A (some (.pointer (some ⟨s3.next,k,some 6⟩)))=true:=fun k=>LA.cr (A:=A) (i:=s3.next) hA3
  have lo5:∀k,LA.ej A (some (.pointer (some ⟨s5.next,k,some 2⟩)))=true:=fun k=>LA.cr (A:=A) (i:=s5.next) hA5
  have afh:=abo.keeps dC
  have ajA:=aeX.keeps dC
  have abr:ar s.next s (spare yF 0):=abq.trans (dC.weaken abq.next)
  have gY:bZ (fE l) (fE l)=true:=by simp[bZ,fp,cN,Lk.cells]
  have pl:aJ Tryz.prog (spare yF 0) 58 (.pointer (some ⟨s3.next,0,some 6⟩))=some (fE l):=ax.bF (P:=Tryz.prog) (cs:=l.cells) mi dp afh (c:=6) rfl
  have pb:aJ Tryz.prog (spare yF 0) 4 (.pointer (some ⟨s5.next,0,some 2⟩))=some (.bool ok):=(abp.keeps dC).load O4 (off:=0) (c:=2) rfl (by simp)
  have ps:aJ Tryz.prog (spare yF 0) 56 (.pointer (some ⟨s3.next,0,some 6⟩))=some (i3 l.p l.co l.cl):=by
   have:=ax.uj (P:=Tryz.prog) Ay rW afh (off:=0) (c:=6) rfl (by simp[Lk.cells])
   rw[this];rfl
  have DR:bZ (i3 l.p l.co l.cl) (i3 l.p l.co l.cl)=true:=by simp[bZ,fp,cN]
  cases ok with
  |false=>
   simp only[aj,ak,bH,bI,Nat.sub_self,QS,Qx,↓reduceIte,undef,hn,h4,lo3,lo5,pl,pb,gY]
   refine LB.ct dp (by decide) ajA rfl rfl rfl rfl (fun h=>absurd rfl h) ?_
   intro u Ye J4 Ef
   have lo:=ax.bF (P:=Tryz.prog) (cs:=l.cells) mi dp Ye (c:=6) rfl
   simp only[aj,al,oneOf,QS,Qx,↓reduceIte,aj,bH,bI,Nat.reduceSub,oneOf,QS,Qx,↓reduceIte,hn,h4,aV,lo,Tryz.results32]
   rw[fw,e,hU,hQl]
   exact⟨by simp,abr.trans ⟨by omega,fun j hj=>Ef j (by omega)⟩⟩
  |true=>
   simp only[aj,ak,bH,bI,Nat.sub_self,aa,QS,Qx,↓reduceIte,hn,lo3,lo5,pl,pb,gY,tJ,ps,DR]
   refine(xF (lib:=df) rfl (spare yF 0) l.p l.co l.cl).mono ?_
   rintro _ s13 ⟨rfl,k13⟩
   refine⟨fun _=>LA.ar.yC iU (k13.weaken (by omega)),?_⟩
   have Yf:=ajA.keeps k13
   have ajB:=afh.keeps k13
   have Yg:ar s.next s s13:=abr.trans (k13.weaken abr.next)
   have nz:=abr.next
   have pe:aJ Tryz.prog s13 3 (.pointer (some ⟨s3.next,4,some 6⟩))=some (.int .i64 l.early):=ajB.load bu (off:=4) (c:=6) rfl (by simp[Lk.cells])
   have pp:aJ Tryz.prog s13 3 (.pointer (some ⟨s3.next,0,some 6⟩))=some (.int .i64 l.p):=ajB.load bu (off:=0) (c:=6) rfl (by simp[Lk.cells])
   by_cases d1:oC l.p l.co l.cl
   rotate_left
   ·rw[decide_eq_false d1] at hU|-
    simp only[aj,ak,bH,bI,QS,Qx,↓reduceIte,undef,hn,h4]
    refine LB.ct dp (by decide) Yf rfl rfl rfl rfl (fun h=>absurd rfl h) ?_
    intro u Ye J4 Ef
    have lo:=ax.bF (P:=Tryz.prog) (cs:=l.cells) mi dp Ye (c:=6) rfl
    simp only[aj,al,oneOf,QS,Qx,↓reduceIte,aj,bH,bI,Nat.reduceSub,oneOf,QS,Qx,↓reduceIte,hn,h4,aV,lo,Tryz.results32]
    rw[fw,e,hU,hQl]
    exact⟨by simp,Yg.trans ⟨by omega,fun j hj=>Ef j (by omega)⟩⟩
   rw[decide_eq_true d1] at hU|-
   by_cases d2:l.early=1
   rotate_left
   ·rw[decide_eq_false d2] at hU
    simp only[aj,ak,bH,bI,QS,Qx,↓reduceIte,undef,hn,h4,lo3,W3,pe,eq_false d2]
    refine LB.ct dp (by decide) Yf rfl rfl rfl rfl (fun h=>absurd rfl h) ?_
    intro u Ye J4 Ef
    have lo:=ax.bF (P:=Tryz.prog) (cs:=l.cells) mi dp Ye (c:=6) rfl
    simp only[aj,al,oneOf,QS,Qx,↓reduceIte,aj,bH,bI,Nat.reduceSub,oneOf,QS,Qx,↓reduceIte,hn,h4,aV,lo,Tryz.results32]
    rw[fw,e,hU,hQl]
    exact⟨by simp,Yg.trans ⟨by omega,fun j hj=>Ef j (by omega)⟩⟩
   rw[decide_eq_true d2] at hU
   by_cases d3:l.p=1
   ·rw[decide_eq_true d3] at hU
    simp only[aj,ak,bH,bI,QS,Qx,↓reduceIte,undef,hn,h4,lo3,W3,tJ,mZ,pe,pp,eq_true d2,eq_true d3]
    refine LB.ct dp (by decide) Yf rfl rfl rfl rfl (fun h=>absurd rfl h) ?_
    intro u Ye J4 Ef
    have lo:=ax.bF (P:=Tryz.prog) (cs:=l.cells) mi dp Ye (c:=6) rfl
    simp only[aj,al,oneOf,QS,Qx,↓reduceIte,aj,bH,bI,Nat.reduceSub,oneOf,QS,Qx,↓reduceIte,hn,h4,aV,lo,Tryz.results32]
    rw[fw,e,hU,hQl]
    exact⟨by simp,Yg.trans ⟨by omega,fun j hj=>Ef j (by omega)⟩⟩
   rw[decide_eq_false d3] at hU
   obtain⟨wn,wb⟩:=w5
   cases wb with
   |false=>
    simp only[aj,ak,bH,bI,QS,Qx,↓reduceIte,undef,hn,h4,lo3,W3,tJ,mZ,pe,pp,eq_true d2,eq_false d3]
    refine LB.ct dp (by decide) Yf rfl rfl rfl rfl (fun h=>absurd rfl h) ?_
    intro u Ye J4 Ef
    have lo:=ax.bF (P:=Tryz.prog) (cs:=l.cells) mi dp Ye (c:=6) rfl
    simp only[aj,al,oneOf,QS,Qx,↓reduceIte,aj,bH,bI,Nat.reduceSub,oneOf,QS,Qx,↓reduceIte,hn,h4,aV,lo,Tryz.results32]
    rw[fw,e,hU,hQl]
    exact⟨by simp,Yg.trans ⟨by omega,fun j hj=>Ef j (by omega)⟩⟩
   |true=>
    simp only[aj,ak,bH,bI,QS,Qx,↓reduceIte,hn,h4,lo3,W3,tJ,mZ,pe,pp,eq_true d2,eq_false d3]
    refine LB.ct dp (by decide) Yf rfl rfl rfl rfl (fun h=>absurd rfl h) ?_
    intro u Ye J4 Ef
    have lo:=ax.bF (P:=Tryz.prog) (cs:=l.cells) mi dp Ye (c:=6) rfl
    simp only[aj,al,oneOf,QS,Qx,↓reduceIte,aj,bH,bI,Nat.reduceSub,oneOf,QS,Qx,↓reduceIte,hn,h4,aV,lo,Tryz.results32]
    rw[fw,e,hU,hQl]
    exact⟨by simp,Yg.trans ⟨by omega,fun j hj=>Ef j (by omega)⟩⟩
 rcases c7 with c7|c7
 ·simp only[aj,ak,QS,Qx,↓reduceIte,undef,hn,l2,c7]
  exact go _ (by simp only[ag,hn]) (by simp only[ad,↓reduceIte,Qx]) (by simp only[ad,↓reduceIte,Qx]) (by simp only[ad,↓reduceIte,Qx])
 ·have d70:decide ((7:Int)=0)=false:=rfl
  simp only[aj,ak,QS,Qx,↓reduceIte,hn,F2,l2,decide_not,c7,d70]
  exact go _ (by simp only[ag,hn]) (by simp only[ad,↓reduceIte,Qx]) (by simp only[ad,↓reduceIte,Qx]) (by simp only[ad,↓reduceIte,Qx])
end Go.Proofs.YtdfjfncifneocaaGreat
