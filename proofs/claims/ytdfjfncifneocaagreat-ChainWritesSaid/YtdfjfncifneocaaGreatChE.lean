import Derived.Test.YtdfjfncifneocaaGreatChC
import Derived.Test.YtdfjfncifneocaaGreatPrD
import Derived.Test.YtdfjfncifneocaaGreatLzwD
set_option linter.unusedSimpArgs false
set_option linter.unusedVariables false
set_option maxRecDepth 100000
namespace Go.Cl
theorem EJ {k n:Int}{b:List UInt8}{l d:List (List UInt8×O)}{L:List O}(hb:b.length<=100000000)(hL:L.length<=100000)(tF:∀x∈L,Small x)(hd:d.length+l.length<=100000)(h1:∀e∈d,e.1.length<=100000/\Small e.2)(h2:∀e∈l,e.1.length<=100000/\Small e.2):Small (.mk k n b L (b6 d l)):=by
 have h3:=qp d l
 have h4:∀e∈b6 d l,e.1.length<=100000/\Small e.2:=fun e he=>by
  rcases Ks l d he with h|h
  ·exact h1 e h
  ·exact h2 e h
 exact .mk hb hL (by omega) (fun e he=>(h4 e he).1) tF (fun e he=>(h4 e he).2)
end Go.Cl
namespace Go.Cl.Ch
def nz (l:List O):O:= .mk 6 0 [] l []
def dj (L:List Lk):List O:=L.map fun l=>sF l.name
def fG (L:List Lk):List O:=L.map gB
def qT (L:List Lk):Bool:=L.any fun l=>decide (l.p≠1)
def kB (L:List Lk):List (List UInt8×O):=
 match L with
 |[]=>[]
 |[l]=>[(bM,sF l.name),(dP,gB l)]
 |a::b::r=>if qT (a::b::r) then [(bM,nz (dj (a::b::r))),(dP,nz (fG (a::b::r)))] else [(bM,nz (dj (a::b::r)))]
theorem mB (l:Lk):Small (gB l):=by
 unfold gB
 split
 ·exact Small.none
 ·refine EJ (by simp) (by simp) (fun e h=>by cases h) (by simp[Gm]) (fun e h=>by cases h) (fun e he=>⟨?_,uP l e he⟩)
  simp only[Gm,List.mem_cons,List.not_mem_nil,or_false] at he
  rcases he with rfl|rfl|rfl|rfl<;>simp[qI,jy,gU,qJ]
theorem oj {b:List UInt8}(h:b.length<=100000):Small (sF b):= .mk (by omega) (by simp) (by simp) (fun e h=>by cases h) (fun e h=>by cases h) (fun e h=>by cases h)
theorem qt {L:List Lk}(h:∀l∈L,l.name.length<=100000):∀o∈dj L,Small o:=by
 intro o ho
 obtain⟨l,hl,rfl⟩:=List.mem_map.1 ho
 exact oj (h l hl)
theorem sG (L:List Lk):∀o∈fG L,Small o:=by
 intro o ho
 obtain⟨l,hl,rfl⟩:=List.mem_map.1 ho
 exact mB l
theorem EK (L:List Lk):(kB L).length<=2:=by
 unfold kB
 split
 ·simp
 ·simp
 ·split<;>simp
theorem CB {L:List Lk}(h:∀l∈L,l.name.length<=100000)(hL:L.length<=100000):∀e∈kB L,e.1.length<=100000/\Small e.2:=by
 have Vw:Small (nz (dj L)):= .mk (by simp) (by simp[dj];omega) (by simp) (fun e h=>by cases h) (qt h) (fun e h=>by cases h)
 have sAp:Small (nz (fG L)):= .mk (by simp) (by simp[fG];omega) (by simp) (fun e h=>by cases h) (sG L) (fun e h=>by cases h)
 intro e he
 unfold kB at he
 split at he
 ·cases he
 ·simp only[List.mem_cons,List.not_mem_nil,or_false] at he
  rcases he with rfl|rfl
  ·exact⟨by simp[bM],oj (h _ (by simp))⟩
  ·exact⟨by simp[dP],mB _⟩
 ·split at he
  ·simp only[List.mem_cons,List.not_mem_nil,or_false] at he
   rcases he with rfl|rfl
   ·exact⟨by simp[bM],Vw⟩
   ·exact⟨by simp[dP],sAp⟩
  ·simp only[List.mem_cons,List.not_mem_nil,or_false] at he
   subst he
   exact⟨by simp[bM],Vw⟩
theorem om {L:List Lk}(h:∀l∈L,l.name.length<=100000)(hL:L.length<=100000):∀e∈kB L,Small e.2:=fun e he=>(CB h hL e he).2
end Go.Cl.Ch
namespace Go.Proofs.YtdfjfncifneocaaGreat
open Go.Cl Go.Cl.Pr Go.Cl.Ch
def Vx (s:aq)(D:List (List UInt8×O))(v:Value)(s' :aq):Prop:=∃lx,aM s' 6 v D.length lx/\aL cu 6 (fun j=>s.next<=j) s' D lx/\ar s.next s s'
def kE (b:Nat)(X:Nat->Prop)(y z:Value)(j:Nat):Prop:=b<=j/\¬(X j\/aJ z=some j)/\aJ y≠some j
theorem kE.swap {b:Nat}{X:Nat->Prop}{y z:Value}{j:Nat}(h:kE b X y z j):kE b X z y j:=⟨h.1,fun k=>k.elim (fun k=>h.2.1 (.inl k)) h.2.2,fun k=>h.2.1 (.inr k)⟩
theorem kE.grow {b:Nat}{X:Nat->Prop}{y y' z:Value}{T T' :aq}{D:List O}{lc:List Value}(h:aL dr 5 (kE b X y z) T D lc){o:O}{cs:List Value}(hc:cs.length=5)(ho:dr (kE b X y z) T cs o)(ht:bm y T T')(nJ:aJ y' =aJ y\/∃i,aJ y' =some i/\T.next<=i):aL dr 5 (kE b X y' z) T' (D++[o]) (lc++cs):=
 aL.grow (X:=fun j=>X j\/aJ z=some j) bH h hc ho ht nJ
theorem kE.other {b:Nat}{X:Nat->Prop}{y y' z:Value}{T T' :aq}{D:List O}{lc:List Value}(h:aL dr 5 (kE b X y z) T D lc)(ht:bm y T T')(nJ:aJ y' =aJ y\/∃i,aJ y' =some i/\T.next<=i):aL dr 5 (kE b X y' z) T' D lc:=by
 refine aL.mono bH (aL.turns bH (aL.below bH h) ht (fun j hj=>hj.1.2.2)) (fun j hj=>⟨hj.1.1,hj.1.2.1,fun e=> ?_⟩)
 rcases nJ with h1|⟨i,h1,h2⟩
 ·exact hj.1.2.2 (by rw[<-h1];exact e)
 ·rw[h1] at e;injection e with e;have:=hj.2;omega
theorem kE.y9 {b:Nat}{X:Nat->Prop}{y z:Value}{T:aq}{D:List O}{lc:List Value}(h:aL dr 5 (kE b X y z) T D lc):aL dr 5 (kE b X z y) T D lc:=h.mono bH (fun _ h=>h.swap)
theorem kE.Vy {b n:Nat}{y z:Value}{T:aq}{D:List O}{lc:List Value}(h:aL dr 5 (kE b (fun _=>False) y z) T D lc)(hn:T.next<=n):aL dr 5 (kE b (fun j=>j=n) y z) T D lc:=
 (h.below bH).mono bH (fun j hj=>⟨hj.1.1,fun k=>k.elim (fun k=>by have:=hj.2;omega) (fun k=>hj.1.2.1 (.inr k)),hj.1.2.2⟩)
theorem kE.put {b n:Nat}{y z:Value}{T T' :aq}{D:List O}{lc:List Value}(h:aL dr 5 (kE b (fun j=>j=n) y z) T D lc)(h1:T'.next=T.next)(h2:∀j,j≠n->T'.heap.get j=T.heap.get j):aL dr 5 (kE b (fun _=>False) y z) T' D lc:=
 (aL.turns bH (u:= .pointer (some ⟨n,0,none⟩)) h (bm.bc h1 h2) (fun j hj e=>by
  have e:some n=some j:=e
  injection e with e;exact hj.2.1 (.inl e.symm))).mono bH (fun j hj=>⟨hj.1,fun k=>k.elim (fun k=>k) (fun k=>hj.2.1 (.inr k)),hj.2.2⟩)
set_option maxHeartbeats 8000000 in
theorem Dw (s:aq)(x:Value)(L:List Lk)(hx:aM s 5 x L.length (kD L))(hL:L.length<=1000)(hN:∀l∈L,l.name.length<=100000):Runs Tryz.prog cQ 49 [x] s (Vx s (kB L)):=by
 obtain⟨QQ,gj⟩:∃QQ:Value->aq->Prop,QQ=Vx s (kB L):=⟨_,rfl⟩
 rw[<-gj]
 refine Runs.enter 63 Tryz.func49 rfl rfl rfl rfl ?_
 intro f hn hf
 have h0:f.get 0=x:=hf 0
 clear hf
 have UK:=Tryz.underlying31
 have UO:=Tryz.underlying23
 simp-implicitDefEqProofs(disch:=omega)only[ai,ad,Nat.reduceLT,Nat.reduceEqDiff,↓reduceIte,hn,h0,hx.aV UK]
 refine Comes.bC (fun q f t=>∃(i:Nat) (y z:Value) (LC MC:List Value),q=L.length-i/\i<=L.length/\Own t 5 y i LC/\Own t 5 z i MC/\aL dr 5 (kE s.next (fun _=>False) y z) t (dj (L.take i)) LC/\aL dr 5 (kE s.next (fun _=>False) y z) t (fG (L.take i)) MC/\aN s.next y/\aN s.next z/\(∀j,aJ y=some j->aJ z≠some j)/\ar s.next s t/\f.n=63/\f.get 0=x/\f.get 3=y/\f.get 4=z/\f.get 5= .bool (qT (L.take i))/\f.get 8=x/\f.get 9= .int .i64 (L.length:Nat)/\f.get 10= .int .i64 (i:Nat))
  (fun q f t=>q= .exit 0/\∃(y z:Value) (LC MC:List Value),Own t 5 y L.length LC/\Own t 5 z L.length MC/\aL dr 5 (kE s.next (fun _=>False) y z) t (dj L) LC/\aL dr 5 (kE s.next (fun _=>False) y z) t (fG L) MC/\aN s.next y/\aN s.next z/\ar s.next s t/\f.n=63/\f.get 0=x/\f.get 3=y/\f.get 4=z/\f.get 5= .bool (qT L))
  ⟨0,.slice none 0 0,.slice none 0 0,[],[],rfl,by omega,.nil,.nil,by rw[List.take_zero];exact aL.nil,by rw[List.take_zero];exact aL.nil,aN.nil _,aN.nil _,(fun j h=>by cases h),ar.refl _ _,by simp only[ae,hn],by simp only[aa,↓reduceIte,Nat.reduceEqDiff,h0],by simp only[aa,↓reduceIte,Nat.reduceEqDiff],by simp only[aa,↓reduceIte,Nat.reduceEqDiff],by simp only[aa,↓reduceIte,Nat.reduceEqDiff];rfl,by simp only[aa,↓reduceIte,Nat.reduceEqDiff],by simp only[aa,↓reduceIte,Nat.reduceEqDiff],by simp only[aa,↓reduceIte];rfl⟩ ?_ ?_
 ·clear hn h0 f
  rintro Q hQ q f s6 ⟨i,y,z,LC,MC,rfl,hi,hy,hz,hR,hM,iQ,NP,hyz,dF,hn,h0,h3,h4,h5,h8,h9,dz⟩
  have n6:=dF.next
  have nK:=hx.keeps dF
  by_cases aP:i<L.length
  rotate_left
  ·obtain rfl:i=L.length:=by omega
   rw[List.take_length] at hR hM h5
   have d1:¬((L.length:Nat):Int)<((L.length:Nat):Int):=by omega
   simp-implicitDefEqProofs(disch:=omega)only[ai,aj,Nat.reduceLT,↓reduceIte,hn,h9,dz,eq_false d1]
   exact hQ _ _ _ ⟨rfl,y,z,LC,MC,hy,hz,hR,hM,iQ,NP,dF,by simp only[ae,hn],by simp only[aa,↓reduceIte,Nat.reduceEqDiff,h0],by simp only[aa,↓reduceIte,Nat.reduceEqDiff,h3],by simp only[aa,↓reduceIte,Nat.reduceEqDiff,h4],by simp only[aa,↓reduceIte,Nat.reduceEqDiff,h5]⟩
  have d1:(i:Int)<(L.length:Int):=by omega
  have dI:=nK.indexAddr (P:=Tryz.prog) (k:= .i64) (x:=(i:Int)) UK oh (by omega) (by omega)
  rw[Int.toNat_natCast] at dI
  have fM:=nK.eF (P:=Tryz.prog) Me oh aP
  rw[oO aP] at fM
  obtain⟨l,hl⟩:∃l,l=L[i]:=⟨_,rfl⟩
  rw[<-hl] at fM
  have hlN:l.name.length<=100000:=hN l (by rw[hl];exact List.getElem_mem aP)
  have jY:bX (kV l) (kV l)=true:=by simp[bX,gp,cW,Lk.cells]
  have Ss:cE Tryz.prog 58=some (kV ⟨0,0,0,[],0⟩):=by kernel_rfl
  have KP:cH (kV ⟨0,0,0,[],0⟩)=true:=by kernel_rfl
  simp-implicitDefEqProofs(disch:=omega)only[ai,aj,Nat.reduceLT,Nat.reduceEqDiff,↓reduceIte,hn,h8,h9,dz,eq_true d1,dI,fM,Ss,KP]
  refine aw ?_
  intro s7 og fH kA
  have hd:∀l:Lk,l.cells.length+1=6:=fun _=>rfl
  simp-implicitDefEqProofs(disch:=omega)only[ai,Nat.reduceLT,Nat.reduceEqDiff,↓reduceIte,hn,hd]
  refine aE oh (by decide) og rfl rfl rfl rfl ?_
  intro s8 yY uL qo
  have yY:av s8 s6.next l.cells:=yY
  have iJ:ar s6.next s6 s8:=fH.trans ⟨by omega,fun j hj=>qo j (by omega)⟩
  have n8:=iJ.next
  have GQ:=hy.jh
  have mf:=hz.jh
  have hy:=hy.keeps iJ
  have hz:=hz.keeps iJ
  have hR:=hR.keeps bH iJ
  have hM:=hM.keeps bH iJ
  simp-implicitDefEqProofs(disch:=omega)only[ai]
  obtain⟨A,hA⟩:∃A:Nat->Bool,A=fun j=>decide (j<s8.next/\aJ y≠some j):=⟨_,rfl⟩
  have ef:∀j,A j=true->j<s8.next:=by
   intro j h
   rw[hA] at h
   exact(of_decide_eq_true h).1
  have hA6:A s6.next=true:=by rw[hA];exact decide_eq_true ⟨by omega,fun e=>by have:=GQ _ e;omega⟩
  have hAy:∀j,aJ y=some j->A j=false:=fun j e=>by rw[hA];exact decide_eq_false (fun h=>h.2 e)
  refine LB.cF.dy A ef 2 2 (by kernel_rfl) (by kernel_rfl) ?_
  have db:=ar.spare s8 2
  have F1:(spare s8 2).next=s8.next+2:=bT _ _
  have nM:∀k,LA.dB A (some (.pointer (some ⟨s6.next,k,some 6⟩)))=true:=fun k=>LA.bY (A:=A) (i:=s6.next) hA6
  have l1:aG Tryz.prog (spare s8 2) 9 (.pointer (some ⟨s6.next,3,some 6⟩))=some (.string ⟨l.name.toArray⟩):=(yY.keeps db).load mW (off:=3) (c:=6) rfl (by simp[Lk.cells])
  simp-implicitDefEqProofs(disch:=omega)only[ai,aj,bn,bp,Nat.add_one_sub_one,ad,ag,Nat.reduceLT,Nat.reduceEqDiff,↓reduceIte,hn,h3,Is,nM,l1,hy.self]
  refine(Q8 (lib:=cQ) rfl (spare s8 2) l.name (by omega)).mono ?_
  rintro _ a ⟨ca,rfl,oa,ka⟩
  have ma:=ka.next
  refine⟨fun _=>LA.ar.lM ef (ka.weaken (by omega)),?_⟩
  have la:=oa.len
  try simp-implicitDefEqProofs(disch:=omega)only[dY (cs:=ca.toArray) UO eO zO oQ rfl la (by decide)]
  refine LB.bF (base:=s8.next) la (by omega) (Nat.le_refl _) ?_
  intro u b hu fc kb nb ob
  have Xk:ar s8.next s8 b:=(db.trans (ka.weaken (by omega))).trans kb
  have mb:=Xk.next
  obtain⟨E8,Yf⟩:∃E8:Nat->Prop,E8=fun j=>j=s8.next+1:=⟨_,rfl⟩
  have hR:=kE.Vy hR (n:=s8.next+1) (by omega)
  have hM:=kE.Vy hM (n:=s8.next+1) (by omega)
  rw[<-Yf] at hR hM
  have ob' :dr (kE s.next E8 y z) b ca (sF l.name):=((oa.turns (u:= .pointer (some ⟨s8.next,0,none⟩)) (bm.bc nb ob) (fun j hj e=>by
   have e:some s8.next=some j:=e
   injection e with e;omega)).mono (fun j hj=>⟨by omega,fun e=>e.elim (fun e=>by rw[Yf] at e;omega) (fun e=>by have:=mf _ e;omega),fun e=>by have:=GQ _ e;omega⟩))
  simp-implicitDefEqProofs(disch:=omega)only[ai,bp,ad,Nat.reduceLT,Nat.reduceEqDiff,↓reduceIte,hn]
  refine LB.cZ UO UO (.inl ⟨_,rfl⟩) eO WA zO rfl (hy.keeps Xk) hu.aH.src la (by decide) ob'.ok (by omega) (by omega) (base:=s.next) iQ (by omega) (fun _=>hAy) (fun j hj=>by have:=ef j hj;omega) ?_
  intro y' c OD Rr uj nJ
  have mc:=uj.next
  have Yg:=kE.grow (hR.keeps bH Xk) la ob' uj nJ
  have Vz:=kE.other (hM.keeps bH Xk) uj nJ
  have CY:∀j,aJ y' =some j->aJ y=some j\/b.next<=j:=fun j e=>by
   rcases nJ with h|⟨k,h,h2⟩
   ·left;rw[<-h];exact e
   ·right;rw[h] at e;injection e with e;omega
  have pR:Own c 5 z i MC:=(hz.keeps Xk).turns uj (fun j e e2=>hyz j e2 e)
  have Rs:∀j,aJ y' =some j->aJ z≠some j:=fun j e e2=>by
   rcases CY j e with h|h
   ·exact hyz j h e2
   ·have:=mf j e2;omega
  have OJ:=(yY.keeps Xk).turns uj (fun e=>by have:=GQ _ e;omega)
  have la2:aG Tryz.prog c 58 (.pointer (some ⟨s6.next,0,some 6⟩))=some (kV l):=av.cY (P:=Tryz.prog) (cs:=l.cells) Me oh OJ (c:=6) rfl
  simp-implicitDefEqProofs(disch:=omega)only[ai,aj,bn,bp,Nat.sub_self,Nat.reduceSub,ad,ag,Nat.reduceLT,Nat.reduceEqDiff,↓reduceIte,hn,h4,nM,la2,jY,hz.self]
  refine(Og c l).mono ?_
  rintro _ d ⟨cd,rfl,od,kd⟩
  have md:=kd.next
  have ld:=od.len
  refine⟨fun h=>absurd h (fun h=>h),?_⟩
  try simp-implicitDefEqProofs(disch:=omega)only[dY (cs:=cd.toArray) UO eO zO oQ rfl ld (by decide)]
  refine LB.bF (base:=s8.next) ld (by omega) (by omega) ?_
  intro u2 e G3 Ar ke ne oe
  have hR2:=kE.put (by rw[Yf] at Yg;exact Yg.keeps bH kd) ne oe
  have Ue:=kE.put (by rw[Yf] at Vz;exact Vz.keeps bH kd) ne oe
  have cD:∀w,(∀j,aJ w=some j->aJ y=some j\/aJ z=some j\/b.next<=j)->aJ w≠some (s8.next+1):=fun w h q=>by
   rcases h _ q with h|h|h
   ·have:=GQ _ h;omega
   ·have:=mf _ h;omega
   ·omega
  have pQ:Own e 5 y' (i+1) (LC++ca):=(OD.keeps kd).bc ne oe (cD _ (fun j q=>(CY j q).imp id .inr))
  have GX:Own e 5 z i MC:=(pR.keeps kd).bc ne oe (cD _ (fun j q=> .inr (.inl q)))
  have od2:dr (kE s.next (fun _=>False) z y') e cd (gB l):=((od.turns (u:= .pointer (some ⟨s8.next+1,0,none⟩)) (bm.bc ne oe) (fun j hj q=>by
   have q:some (s8.next+1)=some j:=q
   injection q with q;omega)).mono (fun j hj=>⟨by omega,fun q=>q.elim id (fun q=>by have:=OD.jh j q;omega),fun q=>by have:=mf _ q;omega⟩))
  simp-implicitDefEqProofs(disch:=omega)only[ai,bp,ad,Nat.reduceLT,Nat.reduceEqDiff,↓reduceIte,hn]
  refine LB.cZ UO UO (.inl ⟨_,rfl⟩) eO WA zO rfl GX G3.aH.src ld (by decide) od2.ok (by omega) (by omega) (base:=s.next) NP (by omega) (fun h=>absurd rfl h) (fun j hj=>by have:=ef j hj;omega) ?_
  intro z' g Uf Rt Yh KQ
  have hM3:=kE.y9 (kE.grow (kE.y9 Ue) ld od2 Yh KQ)
  have hR3:=kE.y9 (kE.other (kE.y9 hR2) Yh KQ)
  have mg:=Yh.next
  have JY:Own g 5 y' (i+1) (LC++ca):=pQ.turns Yh (fun j q=>Rs j q)
  have aax:∀j,aJ y' =some j->aJ z' ≠some j:=fun j q q2=>by
   rcases KQ with h|⟨k,h,h2⟩
   ·exact Rs j q (by rw[<-h];exact q2)
   ·rw[h] at q2;injection q2 with q2;have:=pQ.jh j q;omega
  have aeA:av g s6.next l.cells:=((OJ.keeps kd).bc ne oe (by omega)).turns Yh (fun q=>by have:=mf _ q;omega)
  have k6g:ar s.next s g:=((((dF.trans (iJ.weaken n6)).trans (Xk.weaken (by omega))).trans ((uj.keeps iQ (by omega)).weaken (by omega))).trans (kd.weaken (by omega))).trans ((show ar s.next d e from⟨by omega,fun j hj=>oe j (by omega)⟩).trans (Yh.keeps NP (by omega)))
  have l7:aG Tryz.prog g 3 (.pointer (some ⟨s6.next,0,some 6⟩))=some (.int .i64 l.p):=aeA.load cj (off:=0) (c:=6) rfl (by simp[Lk.cells])
  have Ru:qT (L.take (i+1))=(qT (L.take i)||decide (l.p≠1)):=by
   unfold qT
   rw[List.take_succ_eq_append_getElem aP,List.any_append,<-hl];simp
  have V0:dj (L.take (i+1))=dj (L.take i)++[sF l.name]:=by
   unfold dj;rw[List.take_succ_eq_append_getElem aP,List.map_append,<-hl];rfl
  have hpm:fG (L.take (i+1))=fG (L.take i)++[gB l]:=by
   unfold fG;rw[List.take_succ_eq_append_getElem aP,List.map_append,<-hl];rfl
  rw[<-V0] at hR3
  rw[<-hpm] at hM3
  cases ha:qT (L.take i) with
  |true=>
   rw[ha] at h5
   simp-implicitDefEqProofs(disch:=omega)only[ai,aj,bn,bp,Nat.reduceSub,Nat.reduceLT,Nat.reduceEqDiff,↓reduceIte,undef,hn,h5,dz,aD,JY.self,Uf.self]
   refine au (L.length-(i+1)) (by omega) ⟨i+1,y',z',LC++ca,MC++cd,rfl,by omega,JY,Uf,hR3,hM3,Rr,Rt,aax,k6g,by simp only[ae,hn],by simp only[aa,↓reduceIte,Nat.reduceEqDiff,h0],by simp only[aa,↓reduceIte,Nat.reduceEqDiff],by simp only[aa,↓reduceIte,Nat.reduceEqDiff],by simp only[aa,↓reduceIte,Nat.reduceEqDiff,Ru,ha,Bool.true_or],by simp only[aa,↓reduceIte,Nat.reduceEqDiff,h8],by simp only[aa,↓reduceIte,Nat.reduceEqDiff,h9],by simp only[aa,↓reduceIte];rfl⟩
  |false=>
   rw[ha] at h5
   simp-implicitDefEqProofs(disch:=omega)only[ai,aj,bn,bp,Nat.reduceSub,Nat.reduceLT,Nat.reduceEqDiff,↓reduceIte,hn,h5,dz,Ir,qQ,l7,aD,JY.self,Uf.self]
   refine au (L.length-(i+1)) (by omega) ⟨i+1,y',z',LC++ca,MC++cd,rfl,by omega,JY,Uf,hR3,hM3,Rr,Rt,aax,k6g,by simp only[ae,hn],by simp only[aa,↓reduceIte,Nat.reduceEqDiff,h0],by simp only[aa,↓reduceIte,Nat.reduceEqDiff],by simp only[aa,↓reduceIte,Nat.reduceEqDiff],by simp only[aa,↓reduceIte,Nat.reduceEqDiff,Ru,ha,Bool.false_or],by simp only[aa,↓reduceIte,Nat.reduceEqDiff,h8],by simp only[aa,↓reduceIte,Nat.reduceEqDiff,h9],by simp only[aa,↓reduceIte];rfl⟩
 clear hn h0 f
 rintro _ f t ⟨rfl,y,z,LC,MC,hy,hz,hR,hM,iQ,NP,aA,hn,h0,h3,h4,h5⟩
 have lH:=hx.keeps aA
 have nt:=aA.next
 have hNs:(dj L).length=L.length:=by simp[dj]
 have hPs:(fG L).length=L.length:=by simp[fG]
 by_cases c0:L.length=0
 ·have e0:L=[]:=List.eq_nil_of_length_eq_zero c0
  subst e0
  have d0:(((([]:List Lk).length:Nat)):Int)=0:=rfl
  simp-implicitDefEqProofs(disch:=omega)only[ai,al,oneOf,ad,Nat.reduceLT,↓reduceIte,hn,h0,lH.aV UK,eq_true d0,Tryz.results49]
  rw[gj]
  exact⟨[],.nil,aL.nil,aA⟩
 have d0:¬((L.length:Nat):Int)=0:=by omega
 by_cases c1:L.length=1
 ·obtain⟨l,rfl⟩:∃l,L=[l]:=List.length_eq_one_iff.1 c1
  have d1:((([l].length:Nat)):Int)=1:=rfl
  simp-implicitDefEqProofs(disch:=omega)only[ai,ad,Nat.reduceLT,Nat.reduceEqDiff,↓reduceIte,hn,h0,lH.aV UK,eq_false d0,eq_true d1]
  obtain⟨A,hA⟩:∃A:Nat->Bool,A=fun j=>decide (j<t.next):=⟨_,rfl⟩
  have ef:∀j,A j=true->j<t.next:=by
   intro j h
   rw[hA] at h
   exact of_decide_eq_true h
  have gW:∀j,j<t.next->A j=true:=fun j h=>by rw[hA];exact decide_eq_true h
  refine LB.cF.dy A ef 1 1 (by kernel_rfl) (by kernel_rfl) ?_
  have db:=ar.spare t 1
  have F1:(spare t 1).next=t.next+1:=bT _ _
  have CM:=(hy.keeps db).aH
  have I3:=(hz.keeps db).aH
  have ix:∀{v:Value} {l:List Value} {u:aq},aM u 5 v 1 l->dC Tryz.prog 23 v (.int .i64 0)=some (aT 5 v 0):=fun {v l u} h=>h.indexAddr (P:=Tryz.prog) (k:= .i64) (x:=0) UO eO (by decide) (by decide)
  have rn:=hR.row 0 (by simp[dj])
  have rm:=hM.row 0 (by simp[fG])
  have ldy:=CM.eF (P:=Tryz.prog) ua eO (k:=0) (by simp)
  have ldz:∀u,ar t.next t u->aG Tryz.prog u 26 (aT 5 z 0)=some (.agg ((MC.drop (0*5)).take 5).toArray):=fun u h=>(hz.keeps h).aH.eF (P:=Tryz.prog) ua eO (k:=0) (by simp)
  have rn:dr (kE s.next (fun _=>False) y z) t ((LC.drop (0*5)).take 5) (sF l.name):=rn
  have rm:dr (kE s.next (fun _=>False) y z) t ((MC.drop (0*5)).take 5) (gB l):=rm
  obtain⟨cn,Dt⟩:∃cn,cn=(LC.drop (0*5)).take 5:=⟨_,rfl⟩
  obtain⟨cm,UM⟩:∃cm,cm=(MC.drop (0*5)).take 5:=⟨_,rfl⟩
  rw[<-Dt] at rn ldy
  rw[<-UM] at rm ldz
  have hlN:=hN l (by simp)
  have hle:∀{v:Value} {l:List Value},aM t 5 v 1 l->LA.dB A (some (aT 5 v 0))=true:=fun {v l} h=>LA.di h gW (by decide)
  have Ug:=hle hy.aH
  have Rv:=hle hz.aH
  simp-implicitDefEqProofs(disch:=omega)only[ai,aj,bn,bp,Nat.sub_self,ad,Nat.reduceLT,Nat.reduceEqDiff,↓reduceIte,hn,h3,h4,hy.self,hz.self,ix CM,ix I3,Ug,ldy,rn.self]
  refine(jo (lib:=cQ) rfl rfl rfl _ (spare t 1) bM cn _ (rn.keeps db) (oj hlN)).mono ?_
  rintro _ a ⟨ca,rfl,oa,ka⟩
  have ma:=ka.next
  have la:=oa.len
  have kta:ar t.next t a:=db.trans (ka.weaken (by omega))
  refine⟨fun _=>LA.ar.lM ef (ka.weaken (by omega)),?_⟩
  simp-implicitDefEqProofs(disch:=omega)only[ai,aj,bn,bp,Nat.reduceSub,ad,ag,Nat.reduceLT,Nat.reduceEqDiff,↓reduceIte,hn,Rv,ldz _ kta,rm.self]
  refine(jo (lib:=cQ) rfl rfl rfl _ a dP cm _ (rm.keeps kta) (mB l)).mono ?_
  rintro _ b ⟨cb,rfl,ob,kb⟩
  have mb:=kb.next
  have lb:=ob.len
  refine⟨fun h=>absurd h (fun h=>h),?_⟩
  have sE:∀(k:List UInt8) (cs:List Value),cs.length=5->(Value.string ⟨k.toArray⟩::cs).length=6:=fun k cs h=>by rw[List.length_cons,h]
  try simp-implicitDefEqProofs(disch:=omega)only[aj,tt (a:=(.string ⟨bM.toArray⟩::ca).toArray) (b:=(.string ⟨dP.toArray⟩::cb).toArray) Tryz.underlying24 jx zE Du rfl (sE bM ca la) (sE dP cb lb) (by decide)]
  refine LB.bF (base:=t.next) (by simp[la,lb]) (by omega) (Nat.le_refl _) ?_
  intro u c hu fc kc nc oc
  have ktc:ar t.next t c:=(kta.trans (kb.weaken (by omega))).trans kc
  have put:∀(k:List UInt8) (q:List Value) (o:O) (w:Nat) (v:aq),dr (fun j=>w<=j) v q o->t.next+1<=w->ar v.next v b->k.length<=9223372036854775807->cu (fun j=>s.next<=j) c (.string ⟨k.toArray⟩::q) (k,o):=fun k q o w v ho hb hu hk=>⟨q,rfl,((ho.keeps hu).turns (u:= .pointer (some ⟨t.next,0,none⟩)) (bm.bc nc oc) (fun j hj e=>by
   have e:some t.next=some j:=e
   injection e with e;omega)).mono (fun j hj=>by omega),hk⟩
  have rows:=aL.two (F:=fun j=>s.next<=j) (s:=c) (sE bM ca la) (put bM ca _ _ _ oa (by omega) kb (by decide)) (sE dP cb lb) (put dP cb _ _ _ ob (by omega) (ar.refl _ _) (by decide))
  simp-implicitDefEqProofs(disch:=omega)only[ai,al,oneOf,Nat.reduceLT,↓reduceIte,ai,bn,bp,oneOf,Nat.reduceLT,↓reduceIte,hn,hu.self,Tryz.results49]
  rw[gj]
  exact⟨_,hu.aH,rows,aA.trans (ktc.weaken nt)⟩
 have d1:¬((L.length:Nat):Int)=1:=by omega
 obtain⟨l1,l2,r,hLr⟩:∃l1 l2 r,L=l1::l2::r:=by
  cases L with
  |nil=>exact absurd rfl c0
  |cons a L=>cases L with
   |nil=>exact absurd rfl c1
   |cons b L=>exact⟨a,b,L,rfl⟩
 have eE:kB L=if qT L then [(bM,nz (dj L)),(dP,nz (fG L))] else [(bM,nz (dj L))]:=by rw[hLr];rfl
 have sN:∀o∈dj L,Small o:=qt hN
 have sP:∀o∈fG L,Small o:=sG L
 have Vw:Small (nz (dj L)):= .mk (by simp) (by omega) (by simp) (fun e h=>by cases h) sN (fun e h=>by cases h)
 have sAp:Small (nz (fG L)):= .mk (by simp) (by omega) (by simp) (fun e h=>by cases h) sP (fun e h=>by cases h)
 have sE:∀(k:List UInt8) (cs:List Value),cs.length=5->(Value.string ⟨k.toArray⟩::cs).length=6:=fun k cs h=>by rw[List.length_cons,h]
 have Uh:∀(k:List UInt8) (q:List Value) (o:O) (w:Nat) (v c:aq),dr (fun j=>w<=j) v q o->s.next<=w->ar v.next v c->k.length<=9223372036854775807->cu (fun j=>s.next<=j) c (.string ⟨k.toArray⟩::q) (k,o):=fun k q o w v c ho hb hu hk=>⟨q,rfl,(ho.keeps hu).mono (fun j hj=>by omega),hk⟩
 cases ha:qT L with
 |true=>
  rw[ha] at h5
  simp-implicitDefEqProofs(disch:=omega)only[ai,aj,ad,Nat.reduceLT,Nat.reduceEqDiff,↓reduceIte,hn,h0,h3,h5,lH.aV UK,eq_false d0,eq_false d1]
  refine(Gd (lib:=cQ) rfl rfl rfl _ t y (dj L) LC (by rw[hNs];exact hy.aH) hR (by omega) sN).mono ?_
  rintro _ a ⟨ca,rfl,oa,ka⟩
  have ma:=ka.next
  simp-implicitDefEqProofs(disch:=omega)only[ai,aj,ad,Nat.reduceLT,↓reduceIte,hn]
  refine(jo (lib:=cQ) rfl rfl rfl _ a bM ca _ oa Vw).mono ?_
  rintro _ b ⟨cb,rfl,ob,kb⟩
  have mb:=kb.next
  have lb:=ob.len
  have OX:ar t.next t b:=ka.trans (kb.weaken (by omega))
  simp-implicitDefEqProofs(disch:=omega)only[ai,aj,ad,Nat.reduceLT,Nat.reduceEqDiff,↓reduceIte,hn,h4]
  refine(Gd (lib:=cQ) rfl rfl rfl _ b z (fG L) MC (by rw[hPs];exact(hz.keeps OX).aH) (hM.keeps bH OX) (by omega) sP).mono ?_
  rintro _ c ⟨cc,rfl,oc,kc⟩
  have mc:=kc.next
  simp-implicitDefEqProofs(disch:=omega)only[ai,aj,ad,Nat.reduceLT,↓reduceIte,hn]
  refine(jo (lib:=cQ) rfl rfl rfl _ c dP cc _ oc sAp).mono ?_
  rintro _ d ⟨cd,rfl,od,kd⟩
  have md:=kd.next
  have ld:=od.len
  simp-implicitDefEqProofs(disch:=omega)only[ai,aj,ag,Nat.reduceLT,Nat.reduceEqDiff,↓reduceIte,hn,tt (a:=(.string ⟨bM.toArray⟩::cb).toArray) (b:=(.string ⟨dP.toArray⟩::cd).toArray) Tryz.underlying24 jx zE Du rfl (sE bM cb lb) (sE dP cd ld) (by decide)]
  refine aQ (by simp[lb,ld]) ?_
  intro u e hu hF ke
  simp-implicitDefEqProofs(disch:=omega)only[ai,al,oneOf,Nat.reduceLT,↓reduceIte,hn,Tryz.results49]
  rw[gj,eE,ha]
  have rows:=aL.two (F:=fun j=>s.next<=j) (s:=e) (sE bM cb lb) (Uh bM cb _ _ _ _ ob (by omega) ((kc.trans (kd.weaken (by omega))).trans (ke.weaken (by omega))) (by decide)) (sE dP cd ld) (Uh dP cd _ _ _ _ od (by omega) ke (by decide))
  exact⟨_,hu.aH,rows,aA.trans ((((OX.trans (kc.weaken (by omega))).trans (kd.weaken (by omega))).trans (ke.weaken (by omega))).weaken nt)⟩
 |false=>
  rw[ha] at h5
  simp-implicitDefEqProofs(disch:=omega)only[ai,aj,ad,Nat.reduceLT,Nat.reduceEqDiff,↓reduceIte,hn,h0,h3,h5,lH.aV UK,eq_false d0,eq_false d1]
  refine(Gd (lib:=cQ) rfl rfl rfl _ t y (dj L) LC (by rw[hNs];exact hy.aH) hR (by omega) sN).mono ?_
  rintro _ a ⟨ca,rfl,oa,ka⟩
  have ma:=ka.next
  simp-implicitDefEqProofs(disch:=omega)only[ai,aj,ad,Nat.reduceLT,↓reduceIte,hn]
  refine(jo (lib:=cQ) rfl rfl rfl _ a bM ca _ oa Vw).mono ?_
  rintro _ b ⟨cb,rfl,ob,kb⟩
  have mb:=kb.next
  have lb:=ob.len
  simp-implicitDefEqProofs(disch:=omega)only[ai,ag,Nat.reduceLT,↓reduceIte,hn,dY (cs:=(.string ⟨bM.toArray⟩::cb).toArray) Tryz.underlying24 jx zE Du rfl (sE bM cb lb) (by decide)]
  refine aQ (by simp[lb]) ?_
  intro u e hu hF ke
  simp-implicitDefEqProofs(disch:=omega)only[ai,al,oneOf,Nat.reduceLT,↓reduceIte,hn,Tryz.results49]
  rw[gj,eE,ha]
  have rows:=aL.one (F:=fun j=>s.next<=j) (s:=e) (sE bM cb lb) (Uh bM cb _ _ _ _ ob (by omega) ke (by decide))
  exact⟨_,hu.aH,rows,aA.trans (((ka.trans (kb.weaken (by omega))).trans (ke.weaken (by omega))).weaken nt)⟩
end Go.Proofs.YtdfjfncifneocaaGreat
namespace Go.Cl.Ch
open Go.Cl.Pr Go.Cl.Hx Go.Cl.B85
theorem Xl:∀(n:Nat) (l:List UInt8),l.length<=n->(GD l).length<=2*l.length+2:=by
 intro n
 induction n with
 |zero=>
  intro l hl
  have:l=[]:=List.eq_nil_of_length_eq_zero (by omega)
  subst this
  rw[zP];simp
 |succ n ih=>
  intro l hl
  by_cases h:l=[]
  ·subst h;rw[zP];simp
  have hp:0<l.length:=List.length_pos_iff.mpr h
  have:=ih (l.drop (min 4 l.length)) (by rw[List.length_drop];omega)
  rw[List.length_drop] at this
  by_cases h2:min 4 l.length=4/\val l 4=0
  ·rw[QB h h2,List.length_cons];omega
  ·rw[sk h h2,List.length_append,List.length_take];omega
theorem Xm (l:List UInt8):(Fx.NN l).length<=l.length+l.length/1000+11:=by
 have h1:(Fx.NN l).length=(Fx.kG l).length+6:=by unfold Fx.NN;simp[tg]
 have h2:=Fx.BZ l
 have h3:=Sto.jJ _ l (Nat.le_refl _)
 unfold Sto.blocks at h3
 omega
theorem Xn (l:List UInt8):8*(Lz.GC l).length<=13*l.length+41:=by
 have h1:=Lz.Eu l
 have h2:(Lz.GC l).length=((Lz.tD l).length+7)/8:=Lz.oi _ _ (Nat.le_refl _)
 omega
theorem Xo (l:Lk)(b:List UInt8):4*((sB l b).1.length+14)<=13*(b.length+14):=by
 have hp:=Bs l.p l.co l.cl b
 unfold sB
 split
 ·have:=nY b
  simp only[hex,List.length_append,List.length_singleton];omega
 split
 ·have:=Xl b.length b (Nat.le_refl _);simp only;omega
 split
 ·have:=Runs.FZ b.length b (Nat.le_refl _);simp only;omega
 split
 ·simp only[List.length_nil];omega
 split
 ·have:=Xm (fE l.p l.co l.cl b).1;simp only;omega
 ·have:=Xn (fE l.p l.co l.cl b).1;simp only;omega
theorem Gn:∀(L:List Lk) (b:List UInt8),4^L.length*((eD L b).1.length+14)<=13^L.length*(b.length+14)
 |[],b=>by simp[eD]
 |l::L,b=>by
  have ih:=Gn L b
  rw[List.length_cons,Nat.pow_succ,Nat.pow_succ]
  simp only[eD]
  split
  ·simp only[List.length_nil,Nat.zero_add]
   have h4:4^L.length<=13^L.length:=Nat.pow_le_pow_left (by decide) _
   have Rx:4^L.length*4*14<=13^L.length*13*14:=Nat.mul_le_mul_right _ (Nat.mul_le_mul h4 (by decide))
   exact Nat.le_trans Rx (Nat.mul_le_mul_left _ (by omega))
  ·have h:=Xo l (eD L b).1
   have e1:4^L.length*4*((sB l (eD L b).1).1.length+14)=4^L.length*(4*((sB l (eD L b).1).1.length+14)):=Nat.mul_assoc _ _ _
   have e2:4^L.length*(13*((eD L b).1.length+14))=13*(4^L.length*((eD L b).1.length+14)):=Nat.mul_left_comm _ _ _
   have e3:13^L.length*13*(b.length+14)=13*(13^L.length*(b.length+14)):=by rw[Nat.mul_comm (13^L.length) 13,Nat.mul_assoc]
   rw[e1,e3]
   exact Nat.le_trans (Nat.mul_le_mul_left _ h) (by rw[e2];exact Nat.mul_le_mul_left _ ih)
theorem x8 {L:List Lk}{b:List UInt8}(hL:L.length<=7)(hb:b.length<=400):(eD L b).1.length<=2000000:=by
 have h:=Gn L b
 obtain⟨n,hn⟩:∃n,n=L.length:=⟨_,rfl⟩
 rw[<-hn] at h hL
 have:n=0\/n=1\/n=2\/n=3\/n=4\/n=5\/n=6\/n=7:=by omega
 rcases this with rfl|rfl|rfl|rfl|rfl|rfl|rfl|rfl<;>simp at h<;>omega
theorem uQ {L:List Lk}{b:List UInt8}(hL:L.length<=8)(hb:b.length<=400):(eD L b).1.length<=7000000:=by
 have h:=Gn L b
 obtain⟨n,hn⟩:∃n,n=L.length:=⟨_,rfl⟩
 rw[<-hn] at h hL
 have:n<=7\/n=8:=by omega
 rcases this with h7|rfl
 ·have:=x8 (L:=L) (b:=b) (by omega) hb;omega
 ·simp at h;omega
end Go.Cl.Ch
set_option linter.unusedSimpArgs false
set_option linter.unusedVariables false
set_option maxRecDepth 100000
namespace Go.Cl.Ch
def fg (L:List Lk)(i:Nat):List Lk:=(L.take i).map dp++L.drop i
theorem EL (L:List Lk):fg L 0=L:=by simp[fg]
theorem Iy (L:List Lk):fg L L.length=L.map dp:=by simp[fg]
theorem wG (L:List Lk)(i:Nat)(h:i<=L.length):(fg L i).length=L.length:=by simp[fg];omega
theorem Iz {L:List Lk}{i:Nat}(h:i<L.length):((L.take i).map dp).length=i:=by rw[List.length_map,List.length_take];omega
theorem Mn {L:List Lk}{i:Nat}(h:i<L.length):(fg L i)[i]?=some L[i]:=by
 have e:=Iz h
 unfold fg
 rw[List.getElem?_append_right (by omega),List.getElem?_drop,e,Nat.sub_self,Nat.add_zero,List.getElem?_eq_getElem h]
theorem EM {L:List Lk}{i:Nat}(h:i<L.length):fg L (i+1)=(fg L i).set i (dp L[i]):=by
 have e:=Iz h
 unfold fg
 rw[List.set_append_right _ _ (by omega),e,Nat.sub_self,List.take_succ_eq_append_getElem h,List.map_append,List.drop_eq_getElem_cons h,List.set_cons_zero,List.append_assoc]
 rfl
theorem Mo {L:List Lk}{i:Nat}(h:i<L.length)(l:Lk):kD (L.set i l)=(kD L).take (i*5)++l.cells++(kD L).drop (i*5+5):=by
 induction L generalizing i with
 |nil=>simp at h
 |cons a L ih=>
  cases i with
  |zero=>simp[kD,Lk.cells]
  |succ i=>
   have:=ih (i:=i) (by simpa using h)
   simp only[kD,List.set_cons_succ,List.map_cons,List.flatten_cons] at this|-
   rw[this]
   have ha:a.cells.length=5:=rfl
   rw[show(i+1)*5=a.cells.length+i*5 by omega,List.take_length_add_append,show a.cells.length+i*5+5=a.cells.length+(i*5+5) by omega,List.drop_length_add_append]
   simp only[List.append_assoc]
theorem IA {L:List Lk}{i:Nat}(h:i<L.length)(a b c:Int):over (kD L) (i*5+0) [.int .i64 a,.int .i64 b,.int .i64 c]=kD (L.set i {L[i] with p:=a,co:=b,cl:=c}):=by
 rw[Mo h]
 unfold over
 have e:=oO h
 have e2:(kD L).drop (i*5+3)=(L[i].cells).drop 3++(kD L).drop (i*5+5):=by
  have e3:(kD L).drop (i*5)=L[i].cells++(kD L).drop (i*5+5):=by
   rw[<-e,<-List.drop_drop,List.take_append_drop]
  rw[<-List.drop_drop,e3,List.drop_append]
  rfl
 rw[Nat.add_zero]
 show _++_++(kD L).drop (i*5+3)=_
 rw[e2]
 simp[Lk.cells]
theorem EN {M:List Lk}{b:List UInt8}{k:Nat}(ce:(eD (M.drop k) b).2≠0)(hk:k<=M.length):∀j,j<=k->(eD (M.drop j) b).2=(eD (M.drop k) b).2/\(eD (M.drop j) b).2≠0:=by
 intro j hj
 obtain⟨d,hd⟩:∃d,d=k-j:=⟨_,rfl⟩
 induction d generalizing j with
 |zero=>
  obtain rfl:j=k:=by omega
  exact⟨rfl,ce⟩
 |succ d ih=>
  obtain⟨i1,i2⟩:=ih (j+1) (by omega) (by omega)
  have hj2:j<M.length:=by omega
  rw[List.drop_eq_getElem_cons hj2]
  simp only[eD]
  rw[if_pos i2]
  exact⟨i1,i2⟩
theorem x9 {M:List Lk}(dE:∀l∈M,Sn l):∀l∈M,l.name.length<=100000:=fun l hl=>by
 have:=(dE l hl).1
 simp only[zt,List.mem_cons,List.not_mem_nil,or_false] at this
 rcases this with h|h|h|h|h<;>(rw[h];decide)
def qU (L:List Lk)(b:List UInt8):O×Int:=
 if¬∀l∈L.map dp,Sn l then(O.none,1) else if 8<L.length then(O.none,3)
 else if(eD (L.map dp) b).2≠0 then(O.none,(eD (L.map dp) b).2) else(.mk 8 0 (eD (L.map dp) b).1 [] (b6 [] (kB (L.map dp))),0)
end Go.Cl.Ch
namespace Go.Proofs.YtdfjfncifneocaaGreat
open Go.Cl Go.Cl.Pr Go.Cl.Ch
theorem aaB {s:aq}{v:Value}{n:Nat}{l:List Value}(h:aM s 5 v n l){k:Nat}(hk:k<n):az Tryz.prog 58 (aT 5 v k) 0=some (bR (aT 5 v k) 0):=by
 obtain⟨i,off,c,e1,_⟩:=h.cells hk
 rw[e1]
 unfold az;rw[Tryz.underlying58];simp[bR,vK]
theorem aeD (p co cl:Int):du Tryz.prog .eql 56 (i3 p co cl) (i3 0 0 0)=some (.bool (decide (p=0/\co=0/\cl=0))):=by
 have h:wM Tryz.prog 56 #[.int .i64 p,.int .i64 co,.int .i64 cl] #[.int .i64 0,.int .i64 0,.int .i64 0]=some (p==0&&(co==0&&(cl==0&&true))):=by kernel_rfl
 simp only[du,h]
 congr 2
 rw[Bool.eq_iff_iff]
 simp
theorem Ui (s:aq)(x:Value)(n:Nat)(lx:List Value)(hx:aM s 5 x n lx)(N4:n<=1000000)(dE:lx.all aO=true):
  Runs Tryz.prog cQ 44 [x] s fun v s' =>Own s' 5 v n lx/\aN s.next v/\ar s.next s s' :=by
 refine Runs.enter 8 Tryz.func44 rfl rfl rfl rfl ?_
 intro f hn hf
 have h0:f.get 0=x:=hf 0
 clear hf
 have UK:=Tryz.underlying31
 have Ss:cE Tryz.prog 58=some (kV ⟨0,0,0,[],0⟩):=by kernel_rfl
 have KP:cH (kV ⟨0,0,0,[],0⟩)=true:=by kernel_rfl
 have Ry:eW Tryz.prog 58=some 48:=by kernel_rfl
 simp-implicitDefEqProofs(disch:=omega)only[ai,Nat.reduceLT,Nat.reduceEqDiff,↓reduceIte,hn,h0,hx.p5 UK]
 refine fI (fun h=> ?_) (fun h=> ?_)
 ·obtain⟨h1,h2,_⟩:=hx.isNil h
  subst h1
  have:lx=[]:=List.eq_nil_of_length_eq_zero (by have:=hx.length;omega)
  subst this
  simp-implicitDefEqProofs(disch:=omega)only[ai,al,oneOf,Nat.reduceLT,↓reduceIte,hn,Tryz.results44]
  exact⟨.nil,aN.nil _,ar.refl _ _⟩
 ·simp-implicitDefEqProofs(disch:=omega)only[ai,ag,xk UK oh Ss KP rfl]
  refine aQ (by rfl) ?_
  intro b s1 hb hF aA
  simp-implicitDefEqProofs(disch:=omega)only[ai,ad,Nat.reduceLT,Nat.reduceEqDiff,↓reduceIte,hn,h0]
  refine bG UK UK (.inl ⟨_,rfl⟩) oh Ry Ss rfl hb (hx.keeps aA).src hx.length (by decide) dE (by omega) (by omega) hF aA.next ?_
  intro b' s2 qV vE cI _ _
  simp-implicitDefEqProofs(disch:=omega)only[ai,al,oneOf,Nat.reduceLT,↓reduceIte,hn,Tryz.results44]
  exact⟨by simpa using qV,vE,aA.trans cI⟩
def Mp (s:aq)(p:O×Int)(v:Value)(s' :aq):Prop:=∃cs,v= .tuple #[.agg cs.toArray,.int .i64 p.2]/\dr (fun j=>s.next<=j) s' cs p.1/\ar s.next s s'
set_option maxHeartbeats 8000000 in
theorem Gp (s:aq)(x y:Value)(b:List UInt8)(L:List Lk)(hx:aM s 1 x b.length (ofBytes b))(hy:aM s 5 y L.length (kD L))(hb:b.length<=400)(hL:L.length<=1000):
  Runs Tryz.prog cQ 22 [x,y] s (Mp s (qU L b)):=by
 obtain⟨QQ,gj⟩:∃QQ:Value->aq->Prop,QQ=Mp s (qU L b):=⟨_,rfl⟩
 rw[<-gj]
 refine Runs.enter 76 Tryz.func22 rfl rfl rfl rfl ?_
 intro f hn hf
 have h0:f.get 0=x:=hf 0
 have h1:f.get 1=y:=hf 1
 clear hf
 have UK:=Tryz.underlying31
 simp-implicitDefEqProofs(disch:=omega)only[ai,↓reduceIte,zO,oQ]
 refine aw ?_
 intro s1 fa bB jb
 have il:cr.length+1=6:=rfl
 have n1:=bB.next
 simp-implicitDefEqProofs(disch:=omega)only[ai,aj,ad,Nat.reduceLT,Nat.reduceEqDiff,↓reduceIte,hn,h1,il]
 refine(Ui s1 y L.length (kD L) (hy.keeps bB) (by omega) (Ra L)).mono ?_
 rintro w s2 ⟨hw,lF,bD⟩
 have n2:=bD.next
 have fm:=fa.keeps bD
 simp-implicitDefEqProofs(disch:=omega)only[ai,ad,Nat.reduceLT,↓reduceIte,hn,hw.aH.aV UK]
 refine Comes.bC (fun q f t=>∃(i:Nat),q=L.length-i/\i<=L.length/\Own t 5 w L.length (kD (fg L i))/\(∀l∈L.take i,Sn (dp l))/\av t s.next cr/\ar s1.next s1 t/\f.n=76/\f.get 0=x/\f.get 4= .pointer (some ⟨s.next,0,some 6⟩)/\f.get 6=w/\f.get 14= .int .i64 (L.length:Nat)/\f.get 15= .int .i64 (i:Nat))
  (fun q f t=>(q= .ret/\(¬∀l∈L.map dp,Sn l)/\av t s.next cr/\ar s.next s t/\f.n=76/\f.get 4= .pointer (some ⟨s.next,0,some 6⟩)/\f.get 5= .int .i64 1)\/(q= .exit 0/\(∀l∈L.map dp,Sn l)/\Own t 5 w L.length (kD (L.map dp))/\av t s.next cr/\ar s1.next s1 t/\f.n=76/\f.get 0=x/\f.get 4= .pointer (some ⟨s.next,0,some 6⟩)/\f.get 6=w))
  ⟨0,rfl,by omega,by rw[EL];exact hw,by simp,fm,bD,by simp only[ae,hn],by simp only[aa,↓reduceIte,Nat.reduceEqDiff,h0],by simp only[aa,↓reduceIte,Nat.reduceEqDiff],by simp only[aa,↓reduceIte,Nat.reduceEqDiff],by simp only[aa,↓reduceIte,Nat.reduceEqDiff],by simp only[aa,↓reduceIte];rfl⟩ ?_ ?_
 ·clear hn h0 h1 f
  rintro Q hQ q f t ⟨i,rfl,hi,hw,dE,ht,aA,hn,h0,h4,h6,zq,lI⟩
  have nt:=aA.next
  by_cases aP:i<L.length
  rotate_left
  ·obtain rfl:i=L.length:=by omega
   have d1:¬((L.length:Nat):Int)<((L.length:Nat):Int):=by omega
   rw[List.take_length] at dE
   rw[Iy] at hw
   simp-implicitDefEqProofs(disch:=omega)only[ai,Nat.reduceLT,↓reduceIte,hn,zq,lI,eq_false d1]
   exact hQ _ _ _ (.inr ⟨rfl,fun l hl=>by obtain⟨a,ha,rfl⟩:=List.mem_map.1 hl;exact dE a ha,hw,ht,aA,by simp only[ae,hn],by simp only[aa,↓reduceIte,Nat.reduceEqDiff,h0],by simp only[aa,↓reduceIte,Nat.reduceEqDiff,h4],by simp only[aa,↓reduceIte,Nat.reduceEqDiff,h6]⟩)
  have d1:(i:Int)<(L.length:Int):=by omega
  have dI:=hw.aH.indexAddr (P:=Tryz.prog) (k:= .i64) (x:=(i:Int)) UK oh (by omega) (by omega)
  rw[Int.toNat_natCast] at dI
  have HN:=wG L i hi
  have hg:(fg L i)[i]?=some L[i]:=Mn aP
  have zf:i<(fg L i).length:=by omega
  have PF:(fg L i)[i]=L[i]:=by rw[List.getElem?_eq_getElem zf] at hg;exact Option.some.inj hg
  have lj:=oO zf
  rw[PF] at lj
  obtain⟨l,hl⟩:∃l,l=L[i]:=⟨_,rfl⟩
  rw[<-hl] at lj PF
  have wK:=aaB hw.aH aP
  have kx:aG Tryz.prog t 56 (bR (aT 5 w i) 0)=some (i3 l.p l.co l.cl):=by
   have:=hw.aH.kz (P:=Tryz.prog) HB vK aP (j:=0) (by decide)
   rw[this]
   have e2:((kD (fg L i)).drop (i*5+0)).take 3=(((kD (fg L i)).drop (i*5)).take 5).take 3:=by rw[List.take_take,Nat.add_zero];rfl
   rw[e2,lj];rfl
  have bz:dM Tryz.prog 56 []=some (i3 0 0 0):=by kernel_rfl
  have bo:dM Tryz.prog 26 []=some (.agg cr.toArray):=by kernel_rfl
  have vp:bX (bR (aT 5 w i) 0) (bR (aT 5 w i) 0)=true:=fA _ _ _ _
  simp-implicitDefEqProofs(disch:=omega)only[ai,ag,Nat.reduceLT,Nat.reduceEqDiff,↓reduceIte,hn,h6,zq,lI,eq_true d1,dI,wK,kx,bz,aeD]
  generalize hK:mR Tryz.prog cQ (Code.seq (Code.region _ _ _) (Code.cond _ _ _)) _=K
  have Su:=EM aP
  rw[<-hl] at Su
  have uT:=Mo zf (dp l)
  rw[<-Su] at uT
  have go:∀(f:aR) (t' :aq),f.n=76->f.get 0=x->f.get 4= .pointer (some ⟨s.next,0,some 6⟩)->f.get 6=w->f.get 7= .int .i64 (i:Nat)->f.get 14= .int .i64 (L.length:Nat)->f.get 15= .int .i64 (i:Nat)->Own t' 5 w L.length (kD (fg L (i+1)))->av t' s.next cr->ar s1.next s1 t' ->K .normal f t' :=by
   clear hn h0 h4 h6 zq lI f hw ht aA dI wK kx lj vp
   intro f t' hn h0 h4 h6 h7 zq lI hw ht aA
   subst hK
   have nt:=aA.next
   have dI:=hw.aH.indexAddr (P:=Tryz.prog) (k:= .i64) (x:=(i:Int)) UK oh (by omega) (by omega)
   rw[Int.toNat_natCast] at dI
   have HN:=wG L (i+1) aP
   have Kx:i<(fg L (i+1)).length:=by omega
   have Uj:(fg L (i+1))[i]=dp l:=by simp[Su]
   have lj:=oO Kx
   rw[Uj] at lj
   have wK:=aaB hw.aH aP
   have kx:∀t2,ar t'.next t' t2->aG Tryz.prog t2 56 (bR (aT 5 w i) 0)=some (i3 (dp l).p (dp l).co (dp l).cl):=fun t2 h2=>by
    have:=(hw.keeps h2).aH.kz (P:=Tryz.prog) HB vK aP (j:=0) (by decide)
    rw[this]
    have e2:((kD (fg L (i+1))).drop (i*5+0)).take 3=(((kD (fg L (i+1))).drop (i*5)).take 5).take 3:=by rw[List.take_take,Nat.add_zero];rfl
    rw[e2,lj];rfl
   have fM:=hw.aH.eF (P:=Tryz.prog) Me oh aP
   rw[lj] at fM
   simp-implicitDefEqProofs(disch:=omega)only[ai,aj,ad,Nat.reduceLT,Nat.reduceEqDiff,↓reduceIte,hn,h6,h7,dI,fM]
   refine(N9 t' (dp l)).mono ?_
   rintro _ t2 ⟨rfl,k2⟩
   have m2:=k2.next
   by_cases c1:(dp l).name∈zt
   rotate_left
   ·rw[decide_eq_false c1]
    simp-implicitDefEqProofs(disch:=omega)only[ai,aj,ag,Nat.reduceLT,Nat.reduceEqDiff,↓reduceIte,undef,hn,h4,bo]
    refine aE eO (by decide) (ht.keeps k2) rfl rfl rfl rfl ?_
    intro t3 nB td ij
    have nB:av t3 s.next cr:=nB
    simp-implicitDefEqProofs(disch:=omega)only[ai,Nat.reduceLT,↓reduceIte,hn]
    exact hQ _ _ _ (.inl ⟨rfl,fun dS=>c1 (dS _ (List.mem_map.2 ⟨L[i],List.getElem_mem aP,by rw[hl]⟩)).1,nB,(bB.trans ((aA.trans (k2.weaken nt)).weaken n1)).trans ⟨by omega,fun j hj=>ij j (by omega)⟩,by simp only[ae,hn],by simp only[aa,↓reduceIte,Nat.reduceEqDiff,h4],by simp only[aa,↓reduceIte]⟩)
   rw[decide_eq_true c1]
   simp-implicitDefEqProofs(disch:=omega)only[ai,aj,ad,Nat.reduceLT,Nat.reduceEqDiff,↓reduceIte,hn,h6,h7,dI,wK,kx _ k2]
   refine(HD (lib:=cQ) rfl t2 (dp l).p (dp l).co (dp l).cl).mono ?_
   rintro _ t3 ⟨rfl,k3⟩
   have m3:=k3.next
   have OY:ar t'.next t' t3:=k2.trans (k3.weaken m2)
   by_cases c2:qO (dp l).p (dp l).co (dp l).cl
   rotate_left
   ·rw[decide_eq_false c2]
    simp-implicitDefEqProofs(disch:=omega)only[ai,aj,ag,Nat.reduceLT,Nat.reduceEqDiff,↓reduceIte,hn,h4,bo]
    refine aE eO (by decide) (ht.keeps OY) rfl rfl rfl rfl ?_
    intro t4 fU N4 FX
    have fU:av t4 s.next cr:=fU
    simp-implicitDefEqProofs(disch:=omega)only[ai,Nat.reduceLT,↓reduceIte,hn]
    exact hQ _ _ _ (.inl ⟨rfl,fun dS=>c2 (dS _ (List.mem_map.2 ⟨L[i],List.getElem_mem aP,by rw[hl]⟩)).2,fU,(bB.trans ((aA.trans (OY.weaken nt)).weaken n1)).trans ⟨by omega,fun j hj=>FX j (by omega)⟩,by simp only[ae,hn],by simp only[aa,↓reduceIte,Nat.reduceEqDiff,h4],by simp only[aa,↓reduceIte]⟩)
   rw[decide_eq_true c2]
   simp-implicitDefEqProofs(disch:=omega)only[ai,aj,Nat.reduceLT,Nat.reduceEqDiff,↓reduceIte,hn,lI,aD]
   refine au (L.length-(i+1)) (by omega) ⟨i+1,rfl,by omega,hw.keeps OY,fun a ha=> ?_,ht.keeps OY,aA.trans (OY.weaken nt),by simp only[ae,hn],by simp only[aa,↓reduceIte,Nat.reduceEqDiff,h0],by simp only[aa,↓reduceIte,Nat.reduceEqDiff,h4],by simp only[aa,↓reduceIte,Nat.reduceEqDiff,h6],by simp only[aa,↓reduceIte,Nat.reduceEqDiff,zq],by simp only[aa,↓reduceIte];rfl⟩
   rw[List.take_succ_eq_append_getElem aP,<-hl] at ha
   rcases List.mem_append.1 ha with ha|ha
   ·exact dE a ha
   ·rw[List.mem_singleton.1 ha];exact⟨c1,c2⟩
  by_cases cz:l.p=0/\l.co=0/\l.cl=0
  ·have xJ:dp l={l with p:=1,co:=1,cl:=1}:=by unfold dp;rw[if_pos cz]
   simp-implicitDefEqProofs(disch:=omega)only[ai,aj,ad,Nat.reduceLT,Nat.reduceEqDiff,↓reduceIte,hn,h6,decide_eq_true cz]
   refine(Oa t).mono ?_
   rintro _ t2 ⟨rfl,k2⟩
   have aeE:=(hw.keeps k2).aH.indexAddr (P:=Tryz.prog) (k:= .i64) (x:=(i:Int)) UK oh (by omega) (by omega)
   rw[Int.toNat_natCast] at aeE
   simp-implicitDefEqProofs(disch:=omega)only[ai,Nat.reduceLT,Nat.reduceEqDiff,↓reduceIte,hn,dI,wK]
   obtain⟨t3,e3,zK,hu3⟩:=(hw.keeps k2).Wd (P:=Tryz.prog) (e:=56) vK (by decide) aP (j:=0) (by decide) (w:=i3 1 1 1) (vs:=l3 1 1 1) rfl rfl rfl (p:=bR (aT 5 w i) 0) (fun a o c h=>by rw[h];rfl)
   have zK:Own t3 5 w L.length (kD (fg L (i+1))):=by
    have:=IA zf 1 1 1
    rw[PF,<-xJ,<-Su] at this
    rw[<-this];exact zK
   simp-implicitDefEqProofs(disch:=omega)only[ai,e3]
   exact go _ _ (by simp only[ae,hn]) (by simp only[aa,↓reduceIte,Nat.reduceEqDiff,h0]) (by simp only[aa,↓reduceIte,Nat.reduceEqDiff,h4]) (by simp only[aa,↓reduceIte,Nat.reduceEqDiff,h6]) (by simp only[aa,↓reduceIte,Nat.reduceEqDiff]) (by simp only[aa,↓reduceIte,Nat.reduceEqDiff,zq]) (by simp only[aa,↓reduceIte,Nat.reduceEqDiff,lI]) zK ((ht.keeps k2).turns hu3 (fun e=>by have:=lF _ e;omega)) ((aA.trans (k2.weaken nt)).trans (hu3.keeps lF (by have:=k2.next;omega)))
  ·have xJ:dp l=l:=by unfold dp;rw[if_neg cz]
   have j6:fg L (i+1)=fg L i:=by
    rw[Su,xJ,<-PF];exact List.set_getElem_self zf
   simp-implicitDefEqProofs(disch:=omega)only[ai,decide_eq_false cz]
   exact go _ _ (by simp only[ae,hn]) (by simp only[aa,↓reduceIte,Nat.reduceEqDiff,h0]) (by simp only[aa,↓reduceIte,Nat.reduceEqDiff,h4]) (by simp only[aa,↓reduceIte,Nat.reduceEqDiff,h6]) (by simp only[aa,↓reduceIte,Nat.reduceEqDiff]) (by simp only[aa,↓reduceIte,Nat.reduceEqDiff,zq]) (by simp only[aa,↓reduceIte,Nat.reduceEqDiff,lI]) (by rw[j6];exact hw) ht aA
 clear hn h0 h1 f
 rintro _ f t (⟨rfl,Db,ht,aA,hn,h4,h5⟩|⟨rfl,dE,hw,ht,aA,hn,h0,h4,h6⟩)
 ·have e:qU L b=(O.none,1):=by unfold qU;rw[if_pos Db]
  have lo:=av.dQ ht rfl
  simp-implicitDefEqProofs(disch:=omega)only[ai,al,oneOf,Nat.reduceLT,↓reduceIte,hn,h4,h5,lo,aW,Tryz.results22]
  rw[gj,e]
  exact⟨cr,rfl,dr.none _ _,aA⟩
 have nt:=aA.next
 by_cases c8:8<L.length
 ·have d8:((L.length:Nat):Int)>8:=by omega
  have bo:dM Tryz.prog 26 []=some (.agg cr.toArray):=by kernel_rfl
  have e:qU L b=(O.none,3):=by unfold qU;rw[if_neg (fun h=>h dE),if_pos c8]
  simp-implicitDefEqProofs(disch:=omega)only[ai,ad,ag,Nat.reduceLT,Nat.reduceEqDiff,↓reduceIte,hn,h4,h6,hw.aH.aV UK,eq_true d8,bo]
  refine aE eO (by decide) ht rfl rfl rfl rfl ?_
  intro t4 fU N4 FX
  have fU:av t4 s.next cr:=fU
  have lo:=av.dQ fU rfl
  simp-implicitDefEqProofs(disch:=omega)only[ai,al,oneOf,Nat.reduceLT,Nat.reduceEqDiff,↓reduceIte,hn,h4,lo,aW,Tryz.results22]
  rw[gj,e]
  exact⟨cr,rfl,dr.none _ _,(bB.trans (aA.weaken n1)).trans ⟨by omega,fun j hj=>FX j (by omega)⟩⟩
 have d8:¬((L.length:Nat):Int)>8:=by omega
 obtain⟨M,hM⟩:∃M,M=L.map dp:=⟨_,rfl⟩
 have hMl:M.length=L.length:=by rw[hM,List.length_map]
 have eM:qU L b=if(eD M b).2≠0 then(O.none,(eD M b).2) else(.mk 8 0 (eD M b).1 [] (b6 [] (kB M)),0):=by
  unfold qU;rw[if_neg (fun h=>h dE),if_neg c8,<-hM]
 rw[<-hM] at dE hw
 have FU:ar s.next s t:=bB.trans (aA.weaken n1)
 simp-implicitDefEqProofs(disch:=omega)only[ai,ad,Nat.reduceLT,Nat.reduceEqDiff,↓reduceIte,hn,h0,h6,hw.aH.aV UK,eq_false d8,aD]
 refine Comes.bC (fun q f u=>∃(k:Nat) (v:Value),q=k/\k<=M.length/\(eD (M.drop k) b).2=0/\aM u 1 v (eD (M.drop k) b).1.length (ofBytes (eD (M.drop k) b).1)/\ar t.next t u/\f.n=76/\f.get 4= .pointer (some ⟨s.next,0,some 6⟩)/\f.get 6=w/\f.get 8=v/\f.get 9= .int .i64 ((k:Int)-1))
  (fun q f u=>(q= .ret/\(eD M b).2≠0/\av u s.next cr/\ar s.next s u/\f.n=76/\f.get 4= .pointer (some ⟨s.next,0,some 6⟩)/\f.get 5= .int .i64 (eD M b).2)\/(q= .exit 2/\∃v,(eD M b).2=0/\aM u 1 v (eD M b).1.length (ofBytes (eD M b).1)/\ar t.next t u/\f.n=76/\f.get 4= .pointer (some ⟨s.next,0,some 6⟩)/\f.get 6=w/\f.get 8=v))
  ⟨M.length,x,rfl,Nat.le_refl _,by rw[List.drop_length];rfl,by rw[List.drop_length];exact hx.keeps FU,ar.refl _ _,by simp only[ae,hn],by simp only[aa,↓reduceIte,Nat.reduceEqDiff,h4],by simp only[aa,↓reduceIte,Nat.reduceEqDiff,h6],by simp only[aa,↓reduceIte,Nat.reduceEqDiff],by simp only[aa,↓reduceIte,hMl]⟩ ?_ ?_
 ·clear hn h0 h4 h6 f
  rintro Q hQ k f u ⟨_,v,rfl,hk,he,hv,hu,hn,h4,h6,h8,h9⟩
  have nu:=hu.next
  cases k with
  |zero=>
   rw[List.drop_zero] at he hv
   have d1:¬(((0:Nat):Int)-1>=0):=by decide
   simp-implicitDefEqProofs(disch:=omega)only[ai,Nat.reduceLT,↓reduceIte,hn,h9,eq_false d1]
   exact hQ _ _ _ (.inr ⟨rfl,v,he,hv,hu,by simp only[ae,hn],by simp only[aa,↓reduceIte,Nat.reduceEqDiff,h4],by simp only[aa,↓reduceIte,Nat.reduceEqDiff,h6],by simp only[aa,↓reduceIte,Nat.reduceEqDiff,h8]⟩)
  |succ k=>
   have aP:k<M.length:=hk
   have d1:((k+1:Nat):Int)-1>=0:=by omega
   have e9:((k+1:Nat):Int)-1=(k:Int):=by omega
   rw[e9] at h9 d1
   have Jy:=hw.keeps hu
   have dI:=Jy.aH.indexAddr (P:=Tryz.prog) (k:= .i64) (x:=(k:Int)) UK oh (by omega) (by omega)
   rw[Int.toNat_natCast] at dI
   have fM:=Jy.aH.eF (P:=Tryz.prog) Me oh (k:=k) (by omega)
   rw[oO aP] at fM
   obtain⟨l,hl⟩:∃l,l=M[k]:=⟨_,rfl⟩
   rw[<-hl] at fM
   have J0:M.drop k=l::M.drop (k+1):=by rw[List.drop_eq_getElem_cons aP,hl]
   have YL:eD (M.drop k) b=sB l (eD (M.drop (k+1)) b).1:=by rw[J0];simp only[eD];rw[if_neg (fun h=>h he)]
   have dh:=x8 (L:=M.drop (k+1)) (b:=b) (by rw[List.length_drop];omega) hb
   simp-implicitDefEqProofs(disch:=omega)only[ai,aj,ad,Nat.reduceLT,Nat.reduceEqDiff,↓reduceIte,hn,h6,h8,h9,eq_true d1,dI,fM]
   refine(Xd u l v _ hv (by omega)).mono ?_
   rintro _ u2 ⟨v2,rfl,Sp⟩
   have x0:∀z,cN (.tuple #[v2,z]) 0=some v2:=fun _=>rfl
   have x1:∀z,cN (.tuple #[v2,z]) 1=some z:=fun _=>rfl
   rw[<-YL] at Sp|-
   have ku:=Sp.stay
   have G3:ar t.next t u2:=hu.trans (ku.weaken nu)
   have nu2:=G3.next
   by_cases ce:(eD (M.drop k) b).2=0
   rotate_left
   ·have bo:dM Tryz.prog 26 []=some (.agg cr.toArray):=by kernel_rfl
    have dS:=EN ce (by omega)
    obtain⟨a1,a2⟩:=dS 0 (by omega)
    rw[List.drop_zero] at a1 a2
    simp-implicitDefEqProofs(disch:=omega)only[ai,aj,ag,Nat.reduceLT,Nat.reduceEqDiff,↓reduceIte,hn,h4,x0,x1,decide_not,decide_eq_false ce,bo]
    refine aE eO (by decide) (ht.keeps G3) rfl rfl rfl rfl ?_
    intro t4 fU N4 FX
    have fU:av t4 s.next cr:=fU
    simp-implicitDefEqProofs(disch:=omega)only[ai,Nat.reduceLT,↓reduceIte,hn]
    exact hQ _ _ _ (.inl ⟨rfl,a2,fU,(FU.trans (G3.weaken (by omega))).trans ⟨by omega,fun j hj=>FX j (by omega)⟩,by simp only[ae,hn],by simp only[aa,↓reduceIte,Nat.reduceEqDiff,h4],by simp only[aa,↓reduceIte,a1]⟩)
   simp-implicitDefEqProofs(disch:=omega)only[ai,aj,Nat.reduceLT,Nat.reduceEqDiff,↓reduceIte,hn,h9,x0,x1,decide_not,decide_eq_true ce,aD]
   exact au k (by omega) ⟨k,v2,rfl,by omega,ce,Sp.own.aH,G3,by simp only[ae,hn],by simp only[aa,↓reduceIte,Nat.reduceEqDiff,h4],by simp only[aa,↓reduceIte,Nat.reduceEqDiff,h6],by simp only[aa,↓reduceIte,Nat.reduceEqDiff],by simp only[aa,↓reduceIte]⟩
 clear hn h0 h4 h6 f
 rintro _ f u (⟨rfl,Db,hu,hsu,hn,h4,h5⟩|⟨rfl,v,he,hv,hu,hn,h4,h6,h8⟩)
 ·have lo:=av.dQ hu rfl
  rw[if_pos Db] at eM
  simp-implicitDefEqProofs(disch:=omega)only[ai,al,oneOf,Nat.reduceLT,↓reduceIte,hn,h4,h5,lo,aW,Tryz.results22]
  rw[gj,eM]
  exact⟨cr,rfl,dr.none _ _,hsu⟩
 rw[if_neg (fun h=>h he)] at eM
 have nu:=hu.next
 have Uk:=x9 dE
 have Jy:=(hw.keeps hu).aH
 rw[<-hMl] at Jy
 simp-implicitDefEqProofs(disch:=omega)only[ai,aj,ad,Nat.reduceLT,Nat.reduceEqDiff,↓reduceIte,hn,h6,h8]
 refine(Dw u w M Jy (by omega) Uk).mono ?_
 rintro z u2 ⟨lx,hz,hR,k2⟩
 have nk2:=k2.next
 have dh:=uQ (L:=M) (b:=b) (by omega) hb
 simp-implicitDefEqProofs(disch:=omega)only[ai,aj,ad,Nat.reduceLT,Nat.reduceEqDiff,↓reduceIte,hn]
 have hEs:∀e∈kB M,Small e.2:=fun e he=>om Uk (by omega) e he
 refine(Kw (lib:=cQ) Vv _ u2 v _ (hv.keeps k2) (by omega) z (kB M) lx hz hR (by have:=EK M;omega) hEs).mono ?_
 rintro _ u3 ⟨cs,rfl,ho,k3⟩
 have nk3:=k3.next
 simp-implicitDefEqProofs(disch:=omega)only[ai,Nat.reduceLT,Nat.reduceEqDiff,↓reduceIte,hn,h4]
 refine aE eO (by decide) ((ht.keeps hu).keeps (k2.trans (k3.weaken nk2))) rfl rfl (by simpa using ho.len) ho.ok ?_
 intro t4 fU N4 FX
 have fU:av t4 s.next cs:=fU
 have lo:=av.dQ fU ho.len
 simp-implicitDefEqProofs(disch:=omega)only[ai,al,oneOf,Nat.reduceLT,Nat.reduceEqDiff,↓reduceIte,hn,h4,lo,aW,Tryz.results22]
 rw[gj,eM]
 obtain⟨c2,e2,o2,p2⟩:=gz.put (F:=fun j=>u2.next<=j) (s:=s) ho (fun j hj=>⟨by omega,by omega⟩) N4 FX (((FU.trans (hu.weaken (by omega))).trans (k2.weaken (by omega))).trans (k3.weaken (by omega))) (Nat.le_refl _)
 exact⟨cs,rfl,by injection e2 with e2;have:=congrArg Array.toList e2;rw[List.toList_toArray,List.toList_toArray] at this;rw[this];exact o2,p2⟩
end Go.Proofs.YtdfjfncifneocaaGreat
