import Derived.Test.YtdfjfncifneocaaGreatChK
import Derived.Test.YtdfjfncifneocaaGreatNfB
import Derived.Test.YtdfjfncifneocaaGreatLzwU
import Derived.Test.YtdfjfncifneocaaGreatHex
import Derived.Test.YtdfjfncifneocaaGreatLzwS
open Nat renaming reduceLT->QS,reduceEqDiff->WP
set_option linter.unusedSimpArgs false
set_option linter.unusedVariables false
set_option maxRecDepth 100000
namespace Go.Cl
theorem Wm {P:Program}{s:aq}{t e:TypeId}{k1 k2:IntKind}{b8 z:Nat}{zv:Value}(hu:P.underlying t=some (.slice e))(b6:aW P e=some z)(hz:bW P e=some zv)(hb:fe P e=some b8)(oY:bP zv=true)(o8:Nat.beq zv.cells.toList.length z=true){n:Nat}(hn:b8*n<=4294967296)(im:n<=4294967296):
  eS P s t (.int k1 n) (.int k2 n)=aZ s (bw zv.cells.toList n) n z:=by
 show(match P.underlying t,Value.int k1 (Int.ofNat n),Value.int k2 (Int.ofNat n) with
 |some (.slice e),.int _ (.ofNat l),.int _ (.ofNat c)=>
  match aW P e,bW P e,fe P e with
  |some n,some z,some nN=>
   if Nat.ble l c&&Nat.ble c 4294967296&&Nat.ble (nN*c) 4294967296&&bP z&&Nat.beq z.cells.toList.length n then aZ s (bw z.cells.toList l) l n else none
  |_,_,_=>none
 |_,_,_=>none)=_
 rw[hu]
 simp only[b6,hz,hb]
 have hc:(Nat.ble n n&&Nat.ble n 4294967296&&Nat.ble (b8*n) 4294967296&&bP zv&&Nat.beq zv.cells.toList.length z)=true:=by
  simp only[Bool.and_eq_true,Nat.ble_eq];exact⟨⟨⟨⟨Nat.le_refl _,im⟩,hn⟩,oY⟩,o8⟩
 rw[if_pos hc]
theorem Wn:∀n,(bw cU n).length=n*5
 |0=>by simp[bw]
 |n+1=>by simp only[bw,List.length_append,Wn n];simp[cU];omega
theorem aS.aau (F:Nat->Prop)(s:aq):∀n,aS dk 5 F s (List.replicate n O.none) (bw cU n)
 |0=>aS.nil
 |n+1=>by
  have h:=(aS.aau F s n).snoc (show cU.length=5 from rfl) (dk.none F s)
  have e:∀n,bw cU n++cU=cU++bw cU n:=by
   intro n
   induction n with
   |zero=>simp[bw]
   |succ n ih=>simp only[bw,List.append_assoc,ih]
  rw[e] at h
  rw[List.replicate_succ']
  exact h
end Go.Cl
namespace Go.Cl.Ch
theorem ot (q:O)(k:List UInt8)(hq:Small q):Small (fB q k):=by
 unfold fB
 split
 ·cases q with
  |mk kk n b L d=>
   cases hq with
   |mk hb hL hd hK ED hD=>
    show Small (oi d k)
    unfold oi
    split
    ·rename_i e he;exact hD _ (List.mem_of_find?_eq_some he)
    ·exact Small.none
 ·exact Small.none
def fQ (o:O):List O×List O×Bool:=
 if(fB o br).kind=0 then([],[],true) else if(fB o br).kind=5 then([fB o br],[fB o eF],true)
 else if(fB o br).kind=6 then(if(fB o eF).kind=0 then((fB o br).items,List.replicate (fB o br).items.length O.none,true) else((fB o br).items,(fB o eF).items,decide ((fB o eF).kind=6)&&decide ((fB o eF).items.length=(fB o br).items.length)))
 else([],[],false)
theorem IB {o:O}(lP:Small o):(∀x∈(fQ o).1,Small x)/\(∀x∈(fQ o).2.1,Small x)/\((fQ o).2.2=true->(fQ o).1.length=(fQ o).2.1.length)/\(fQ o).1.length<=100000:=by
 have h1:=ot o br lP
 have h2:=ot o eF lP
 unfold fQ
 generalize fB o br=f at h1|-
 generalize fB o eF=p at h2|-
 have i1:∀x∈f.items,Small x:=by cases h1 with|mk _ _ _ _ h=>exact h
 have i2:∀x∈p.items,Small x:=by cases h2 with|mk _ _ _ _ h=>exact h
 have i3:f.items.length<=100000:=by cases h1 with|mk _ h=>exact h
 split
 ·exact⟨by simp,by simp,fun _=>rfl,by simp⟩
 ·split
  ·exact⟨by simpa using h1,by simpa using h2,fun _=>rfl,by simp⟩
  ·split
   ·split
    ·exact⟨i1,fun x hx=>by rw[(List.mem_replicate.1 hx).2];exact Small.none,fun _=>by simp,i3⟩
    ·exact⟨i1,i2,fun h=>by simp at h;exact h.2.symm,i3⟩
   ·exact⟨by simp,by simp,fun _=>rfl,by simp⟩
end Go.Cl.Ch
namespace Go.Proofs.YtdfjfncifneocaaGreat
open Go.Cl Go.Cl.Pr Go.Cl.Ch
def aav (s:aq)(p:List O×List O×Bool)(v:Value)(s' :aq):Prop:=∃y z LC MC,v= .tuple #[y,z,.bool p.2.2]/\aN s' 5 y p.1.length LC/\aN s' 5 z p.2.1.length MC/\aS dk 5 (fun j=>s.next<=j) s' p.1 LC/\aS dk 5 (fun j=>s.next<=j) s' p.2.1 MC/\ar s.next s s'
set_option maxHeartbeats 8000000 in
theorem Sn (F:Nat->Prop)(s:aq)(cs:List Value)(o:O)(ho:dk F s cs o)(lP:Small o):
  Runs Tryz.prog eC 31 [.agg cs.toArray] s (aav s (fQ o)):=by
 have jH:=ho.len
 obtain⟨QQ,gp⟩:∃QQ:Value->aq->Prop,QQ=aav s (fQ o):=⟨_,rfl⟩
 rw[<-gp]
 refine Runs.enter 48 Tryz.func31 rfl rfl rfl rfl ?_
 intro f hn hf
 have h0:f.get 0= .agg cs.toArray:=hf 0
 clear hf
 have mO:cU.length+1=6:=rfl
 have UO:=Tryz.underlying23
 simp-implicitDefEqProofs(disch:=omega)only[aj,QS,↓reduceIte,hn,h0]
 refine ax ?_
 intro s1 eO bm iY
 have n1:=bm.next
 simp-implicitDefEqProofs(disch:=omega)only[aj,QS,Nat.reduceAdd,↓reduceIte,hn,jH]
 obtain⟨A,hA⟩:∃A:Nat->Bool,A=fun j=>decide (j<s1.next):=⟨_,rfl⟩
 have nH:∀j,A j=true->j<s1.next:=by
  intro j h
  rw[hA] at h
  exact of_decide_eq_true h
 have hAn:∀j,s1.next<=j->A j=false:=fun j h=>by rw[hA];exact decide_eq_false (by omega)
 have hA1:A s.next=true:=by rw[hA];exact decide_eq_true eO.lt
 refine LB.da.fL A nH 3 2 (by kernel_rfl) (by kernel_rfl) ?_
 have eI:=ar.spare s1 2
 have X3:(spare s1 2).next=s1.next+2:=bU _ _
 have lo1:∀k,LA.fg A (some (.pointer (some ⟨s.next,k,some 6⟩)))=true:=fun k=>LA.cD (A:=A) (i:=s.next) hA1
 have p1:∀t,ar (spare s1 2).next (spare s1 2) t->aR Tryz.prog t 26 (.pointer (some ⟨s.next,0,some 6⟩))=some (.agg cs.toArray):=fun t h=>av.ga ((eO.keeps eI).keeps h) jH
 have jZ:ar s.next s (spare s1 2):=bm.trans (eI.weaken n1)
 simp-implicitDefEqProofs(disch:=omega)only[aj,ak,bS,bT,Nat.add_one_sub_one,ad,QS,WP,↓reduceIte,hn,lo1,p1 _ (ar.refl _ _),ho.self]
 refine(DN F (spare s1 2) cs o (ho.keeps jZ) lP br).mono ?_
 rintro _ a ⟨ca,rfl,oa,ka⟩
 have ma:=ka.next
 refine⟨fun _=>LA.ar.OW nH (ka.weaken (by omega)),?_⟩
 simp-implicitDefEqProofs(disch:=omega)only[aj,ak,bS,bT,Nat.add_one_sub_one,ad,QS,WP,↓reduceIte,hn,lo1,p1 _ ka,ho.self]
 refine(DN F a cs o (ho.keeps (jZ.trans (ka.weaken (by omega)))) lP eF).mono ?_
 rintro _ b ⟨cb,rfl,ob,kb⟩
 have mb:=kb.next
 refine⟨fun _=>LA.ar.OW nH (kb.weaken (by omega)),?_⟩
 simp-implicitDefEqProofs(disch:=omega)only[aj,↓reduceIte,zO,xB]
 refine LB.mC (by omega) ?_
 intro c iT lI xN
 simp-implicitDefEqProofs(disch:=omega)only[aj,bT,QS,↓reduceIte,hn,zO,xB,mO]
 refine LB.mC (by omega) ?_
 intro d tT uD UZ
 simp-implicitDefEqProofs(disch:=omega)only[aj,bT,QS,WP,↓reduceIte,hn,mO]
 refine LB.cF iH (by decide) (iT.aI uD UZ (by omega)) rfl rfl (by simpa using oa.len) oa.ok (fun _=>hAn _ (by omega)) ?_
 intro e he1 V0 he3
 simp-implicitDefEqProofs(disch:=omega)only[aj,bT,Nat.sub_self,QS,WP,↓reduceIte,hn]
 refine LB.cF iH (by decide) (tT.aI V0 he3 (by omega)) rfl rfl (by simpa using ob.len) ob.ok (fun _=>hAn _ (by omega)) ?_
 intro g hg1 hg2 hg3
 have hg0:av g s1.next ca:=he1.aI hg2 hg3 (by omega)
 have hg1:av g (s1.next+1) cb:=hg1
 have kg:∀j,j≠s1.next->j≠s1.next+1->g.heap.get j=b.heap.get j:=fun j e1 e2=>by rw[hg3 j e2,he3 j e1,UZ j e2,xN j e1]
 have ng:g.next=b.next:=by omega
 have oa' :dk (fun j=>s.next<=j) g ca (fB o br):=(((((oa.keeps kb).aI lI xN (by omega)).aI uD UZ (by omega)).aI V0 he3 (by omega)).aI hg2 hg3 (by omega)).mono (fun j hj=>by omega)
 have WW:dk (fun j=>s.next<=j) g cb (fB o eF):=((((ob.aI lI xN (by omega)).aI uD UZ (by omega)).aI V0 he3 (by omega)).aI hg2 hg3 (by omega)).mono (fun j hj=>by omega)
 have Pb:ar s.next s g:=((jZ.trans (ka.weaken (by omega))).trans (kb.weaken (by omega))).trans ⟨by omega,fun j hj=>kg j (by omega) (by omega)⟩
 have hsF:=ot o br lP
 have hsP:=ot o eF lP
 clear oa ob ka kb ma mb iT lI xN tT uD UZ he1 V0 he3 hg2 hg3 kg
 obtain⟨fo,hfo⟩:∃q,q=fB o br:=⟨_,rfl⟩
 obtain⟨po,hpo⟩:∃q,q=fB o eF:=⟨_,rfl⟩
 have N4:fQ o=if fo.kind=0 then([],[],true) else if fo.kind=5 then([fo],[po],true) else if fo.kind=6 then(if po.kind=0 then(fo.items,List.replicate fo.items.length O.none,true) else(fo.items,po.items,decide (po.kind=6)&&decide (po.items.length=fo.items.length))) else([],[],false):=by unfold fQ;rw[<-hfo,<-hpo]
 rw[<-hfo] at oa' hsF
 rw[<-hpo] at WW hsP
 have la:=oa'.len
 have lb:=WW.len
 obtain⟨q0,-⟩:=dk.G2 oa'
 obtain⟨r0,-⟩:=dk.G2 WW
 have f0:aR Tryz.prog g 3 (.pointer (some ⟨s1.next,0,some 6⟩))=some (.int .i64 fo.kind):=by
  have:=hg0.load (P:=Tryz.prog) bC (off:=0) (c:=6) (by omega) (by omega)
  rw[this,q0]
 have f1:aR Tryz.prog g 3 (.pointer (some ⟨s1.next+1,0,some 6⟩))=some (.int .i64 po.kind):=by
  have:=hg1.load (P:=Tryz.prog) bC (off:=0) (c:=6) (by omega) (by omega)
  rw[this,r0]
 by_cases c0:fo.kind=0
 ·simp-implicitDefEqProofs(disch:=omega)only[aj,al,oneOf,QS,WP,↓reduceIte,aj,bT,Nat.reduceSub,oneOf,QS,WP,↓reduceIte,hn,EC,f0,eq_true c0,Tryz.results31]
  rw[gp,N4,if_pos c0]
  exact⟨_,_,[],[],rfl,.nil,.nil,aS.nil,aS.nil,Pb⟩
 obtain⟨B,hB⟩:∃B:Nat->Bool,B=fun j=>decide (j<g.next):=⟨_,rfl⟩
 have LO:∀j,B j=true->j<g.next:=by
  intro j h
  rw[hB] at h
  exact of_decide_eq_true h
 have Hv:B s1.next=true:=by rw[hB];exact decide_eq_true hg0.lt
 have WQ:B (s1.next+1)=true:=by rw[hB];exact decide_eq_true hg1.lt
 have lw1:∀k,LA.fg B (some (.pointer (some ⟨s1.next,k,some 6⟩)))=true:=fun k=>LA.cD (A:=B) (i:=s1.next) Hv
 have lw2:∀k,LA.fg B (some (.pointer (some ⟨s1.next+1,k,some 6⟩)))=true:=fun k=>LA.cD (A:=B) (i:=s1.next+1) WQ
 by_cases c5:fo.kind=5
 ·simp-implicitDefEqProofs(disch:=omega)only[aj,QS,WP,↓reduceIte,aj,bT,Nat.reduceSub,QS,WP,↓reduceIte,hn,EC,f0,eq_false c0,eq_true c5]
  refine LB.da.fL B LO 0 2 (by kernel_rfl) (by kernel_rfl) ?_
  have oB:=ar.spare g 2
  have SF:(spare g 2).next=g.next+2:=bU _ _
  have oq:=oa'.keeps oB
  have bq:=WW.keeps oB
  simp-implicitDefEqProofs(disch:=omega)only[aj,bS,bT,ae,QS,WP,↓reduceIte,hn,lw1,av.ga (hg0.keeps oB) la,oa'.self,fM (cs:=ca.toArray) UO iH zO xB rfl la (by decide)]
  refine LB.dx (base:=g.next) la (by omega) (Nat.le_refl _) ?_
  intro u b2 hu gn kb nb ob2
  have hsu:ar g.next g b2:=oB.trans kb
  simp-implicitDefEqProofs(disch:=omega)only[aj,bS,bT,ae,QS,WP,↓reduceIte,hn,lw2,av.ga (hg1.keeps hsu) lb,WW.self,fM (cs:=cb.toArray) UO iH zO xB rfl lb (by decide)]
  refine LB.dx (base:=g.next) lb (by omega) (by omega) ?_
  intro w b3 hw hiw kc nc oc
  have LH:ar g.next g b3:=hsu.trans kc
  have LS:Own b3 5 u 1 ca:=hu.aI nc oc (by rw[gn];intro e;injection e with e;omega)
  simp-implicitDefEqProofs(disch:=omega)only[aj,al,oneOf,QS,WP,↓reduceIte,aj,bS,bT,oneOf,QS,WP,↓reduceIte,hn,hu.self,hw.self,Tryz.results31]
  rw[gp,N4,if_neg c0,if_pos c5]
  exact⟨u,w,ca,cb,rfl,LS.aG,hw.aG,by simpa using aS.nil.snoc la (oa'.keeps LH),by simpa using aS.nil.snoc lb (WW.keeps LH),Pb.trans (LH.weaken Pb.next)⟩
 by_cases c6:fo.kind=6
 rotate_left
 ·simp-implicitDefEqProofs(disch:=omega)only[aj,al,oneOf,QS,WP,↓reduceIte,aj,bT,Nat.reduceSub,oneOf,QS,WP,↓reduceIte,hn,EC,f0,eq_false c0,eq_false c5,eq_false c6,Tryz.results31]
  rw[gp,N4,if_neg c0,if_neg c5,if_neg c6]
  exact⟨_,_,[],[],rfl,.nil,.nil,aS.nil,aS.nil,Pb⟩
 obtain⟨y,LC,hy,hY,hyR⟩:∃y LC,ca.getD 3 undef=y/\aN g 5 y fo.items.length LC/\aS dk 5 (fun j=>s.next<=j) g fo.items LC:=by
  cases fo with
  |mk k m b l d=>obtain⟨bv,lv,dv,lc,dc,rfl,h1,h2,h3,h4,h5,h6,h7,h8⟩:=oa'.parts;exact⟨lv,lc,rfl,h2,h7⟩
 obtain⟨z,MC,hz,hZ,hzR⟩:∃y LC,cb.getD 3 undef=y/\aN g 5 y po.items.length LC/\aS dk 5 (fun j=>s.next<=j) g po.items LC:=by
  cases po with
  |mk k m b l d=>obtain⟨bv,lv,dv,lc,dc,rfl,h1,h2,h3,h4,h5,h6,h7,h8⟩:=WW.parts;exact⟨lv,lc,rfl,h2,h7⟩
 have f3:∀t,ar g.next g t->aR Tryz.prog t 23 (.pointer (some ⟨s1.next,3,some 6⟩))=some y:=fun t h=>by
  have:=(hg0.keeps h).load (P:=Tryz.prog) UA (off:=3) (c:=6) (by omega) (by omega)
  rw[this,hy]
 have p3:∀t,ar g.next g t->aR Tryz.prog t 23 (.pointer (some ⟨s1.next+1,3,some 6⟩))=some z:=fun t h=>by
  have:=(hg1.keeps h).load (P:=Tryz.prog) UA (off:=3) (c:=6) (by omega) (by omega)
  rw[this,hz]
 have HW:fo.items.length<=100000:=by cases hsF with|mk hb hl=>exact hl
 by_cases p0:po.kind=0
 ·simp-implicitDefEqProofs(disch:=omega)only[aj,QS,WP,↓reduceIte,aj,bT,Nat.reduceSub,QS,WP,↓reduceIte,hn,EC,f0,f1,eq_false c0,eq_false c5,eq_true c6,eq_true p0]
  refine LB.da.fL B LO 0 1 (by kernel_rfl) (by kernel_rfl) ?_
  have oB:=ar.spare g 1
  have SF:(spare g 1).next=g.next+1:=bU _ _
  have hmk:∀t:aq,eS Tryz.prog t 23 (.int .i64 (fo.items.length:Nat)) (.int .i64 (fo.items.length:Nat))=aZ t (bw cU fo.items.length) fo.items.length 5:=fun t=>Wm UO iH zO byO xB rfl (by omega) (by omega)
  simp-implicitDefEqProofs(disch:=omega)only[aj,bS,bT,ad,QS,WP,↓reduceIte,hn,lw1,ZO,f3 _ oB,hY.self,(hY.keeps oB).bh UO,LA.FW hY,hmk]
  refine LB.dx (base:=g.next) (n:=fo.items.length) (z:=5) (Wn _) (by omega) (Nat.le_refl _) ?_
  intro u b2 hu gn kb nb ob2
  have hsu:ar g.next g b2:=oB.trans kb
  simp-implicitDefEqProofs(disch:=omega)only[aj,al,oneOf,QS,WP,↓reduceIte,aj,bS,bT,oneOf,QS,WP,↓reduceIte,hn,hu.self,hY.self,Tryz.results31]
  rw[gp,N4,if_neg c0,if_neg c5,if_pos c6,if_pos p0]
  exact⟨y,u,LC,_,rfl,hY.keeps hsu,by rw[List.length_replicate];exact hu.aG,hyR.keeps cw hsu,aS.aau _ _ _,Pb.trans (hsu.weaken Pb.next)⟩
 ·by_cases p6:po.kind=6
  ·simp-implicitDefEqProofs(disch:=omega)only[aj,ak,al,oneOf,ad,QS,WP,↓reduceIte,aj,ak,bT,Nat.reduceSub,oneOf,ad,QS,WP,↓reduceIte,undef,hn,EC,ZO,f0,f1,f3 _ (ar.refl _ _),p3 _ (ar.refl _ _),hY.self,hZ.self,hY.bh UO,hZ.bh UO,eq_false c0,eq_false c5,eq_true c6,eq_false p0,eq_true p6,Tryz.results31]
   rw[gp,N4,if_neg c0,if_neg c5,if_pos c6,if_neg p0,decide_eq_true p6]
   exact⟨y,z,LC,MC,by simp,hY,hZ,hyR,hzR,Pb⟩
  ·simp-implicitDefEqProofs(disch:=omega)only[aj,ak,al,oneOf,QS,WP,↓reduceIte,aj,ak,bT,Nat.reduceSub,oneOf,QS,WP,↓reduceIte,undef,hn,EC,ZO,f0,f1,f3 _ (ar.refl _ _),p3 _ (ar.refl _ _),hY.self,hZ.self,eq_false c0,eq_false c5,eq_true c6,eq_false p0,eq_false p6,Tryz.results31]
   rw[gp,N4,if_neg c0,if_neg c5,if_pos c6,if_neg p0,decide_eq_false p6]
   exact⟨y,z,LC,MC,rfl,hY,hZ,hyR,hzR,Pb⟩
end Go.Proofs.YtdfjfncifneocaaGreat
namespace Go.Cl.Ch
def me:List O->List O->Option (List Lk)
 |n::N,p::P=>if(pU n p).2=true then(me N P).map ((pU n p).1::·) else none
 |_,_=>some []
def ig (o:O):List Lk×Int:=
 if o.kind≠8 then([],1) else if(fQ o).2.2=false\/8<(fQ o).1.length then([],4)
 else match me (fQ o).1 (fQ o).2.1 with
  |none=>([],4)
  |some L=>(L,0)
end Go.Cl.Ch
namespace Go.Proofs.YtdfjfncifneocaaGreat
open Go.Cl Go.Cl.Pr Go.Cl.Ch
def aax (s:aq)(p:List Lk×Int)(v:Value)(s' :aq):Prop:=∃y,v= .tuple #[y,.int .i64 p.2]/\Own s' 5 y p.1.length (mP p.1)/\aH s.next y/\ar s.next s s'
set_option maxHeartbeats 8000000 in
theorem Lp (F:Nat->Prop)(s:aq)(cs:List Value)(o:O)(ho:dk F s cs o)(lP:Small o):
  Runs Tryz.prog eC 12 [.agg cs.toArray] s (aax s (ig o)):=by
 have jH:=ho.len
 obtain⟨QQ,gp⟩:∃QQ:Value->aq->Prop,QQ=aax s (ig o):=⟨_,rfl⟩
 rw[<-gp]
 refine Runs.enter 52 Tryz.func12 rfl rfl rfl rfl ?_
 intro f hn hf
 have h0:f.get 0= .agg cs.toArray:=hf 0
 clear hf
 have UO:=Tryz.underlying23
 have UK:=Tryz.underlying31
 simp-implicitDefEqProofs(disch:=omega)only[aj,QS,↓reduceIte,hn,h0]
 refine ax ?_
 intro s1 eO bm iY
 have n1:=bm.next
 obtain⟨q0,-⟩:=dk.G2 ho
 have l0:aR Tryz.prog s1 3 (.pointer (some ⟨s.next,0,some 6⟩))=some (.int .i64 o.kind):=by
  have:=eO.load (P:=Tryz.prog) bC (off:=0) (c:=6) (by omega) (by omega)
  rw[this,q0]
 by_cases c8:o.kind=8
 rotate_left
 ·simp-implicitDefEqProofs(disch:=omega)only[aj,ak,al,oneOf,QS,WP,Nat.reduceAdd,↓reduceIte,hn,jH,EC,l0,decide_not,decide_eq_false c8,Tryz.results12]
  have e:ig o=([],1):=by unfold ig;rw[if_pos c8]
  rw[gp,e]
  exact⟨_,rfl,.nil,aH.nil _,bm⟩
 simp-implicitDefEqProofs(disch:=omega)only[aj,ak,ad,QS,WP,Nat.reduceAdd,↓reduceIte,hn,jH,EC,l0,decide_not,decide_eq_true c8,av.ga eO jH]
 refine(Sn F s1 cs o (ho.keeps bm) lP).mono ?_
 obtain⟨R,hR⟩:∃R,R=fQ o:=⟨_,rfl⟩
 have N4:ig o=if R.2.2=false\/8<R.1.length then(([],4):List Lk×Int) else match me R.1 R.2.1 with
  |none=>([],4)
  |some L=>(L,0):=by unfold ig;rw[if_neg (fun h=>h c8),<-hR]
 have Se:(∀x∈R.1,Small x)/\(∀x∈R.2.1,Small x)/\(R.2.2=true->R.1.length=R.2.1.length)/\R.1.length<=100000:=by rw[hR];exact IB lP
 rw[<-hR]
 rintro _ s2 ⟨y,z,LC,MC,rfl,hY,hZ,hyR,hzR,k2⟩
 obtain⟨N,M,t⟩:=R
 dsimp only at hY hZ hyR hzR N4 Se|-
 obtain⟨jZ,dg,ij,ru⟩:=Se
 have n2:=k2.next
 have x0:ba (.tuple #[y,z,.bool t]) 0=some y:=rfl
 have x1:ba (.tuple #[y,z,.bool t]) 1=some z:=rfl
 have x2:ba (.tuple #[y,z,.bool t]) 2=some (.bool t):=rfl
 have aU:ar s.next s s2:=bm.trans (k2.weaken n1)
 cases t with
 |false=>
  simp-implicitDefEqProofs(disch:=omega)only[aj,ak,al,oneOf,QS,WP,↓reduceIte,undef,hn,x0,x1,x2,Tryz.results12]
  rw[gp,N4,if_pos (.inl rfl)]
  exact⟨_,rfl,.nil,aH.nil _,aU⟩
 |true=>
 by_cases c9:8<N.length
 ·have d9:((N.length:Nat):Int)>8:=by omega
  simp-implicitDefEqProofs(disch:=omega)only[aj,ak,al,oneOf,ad,QS,WP,↓reduceIte,hn,x0,x1,x2,hY.bh UO,eq_true d9,Tryz.results12]
  rw[gp,N4,if_pos (.inr c9)]
  exact⟨_,rfl,.nil,aH.nil _,aU⟩
 have d9:¬((N.length:Nat):Int)>8:=by omega
 rw[if_neg (show¬(true=false\/8<N.length) from fun h=>h.elim (fun h=>by cases h) c9)] at N4
 have hlm:N.length=M.length:=ij rfl
 have IQ:bW Tryz.prog 58=some (fC ⟨0,0,0,[],0⟩):=by kernel_rfl
 have vo:bP (fC ⟨0,0,0,[],0⟩)=true:=by kernel_rfl
 have Wo:fe Tryz.prog 58=some 48:=by kernel_rfl
 have hl6:(⟨0,0,0,[],0⟩:Lk).cells.length+1=6:=rfl
 simp-implicitDefEqProofs(disch:=omega)only[aj,ak,ad,QS,WP,↓reduceIte,hn,x0,x1,x2,hY.bh UO,eq_false d9]
 refine Comes.bK (fun q f t=>∃(i:Nat) (v:Value) (L:List Lk),q=N.length-i/\i<=N.length/\L.length=i/\me N M=(me (N.drop i) (M.drop i)).map (L++·)/\Own t 5 v i (mP L)/\aH s2.next v/\ar s2.next s2 t/\f.n=52/\f.get 4=y/\f.get 5=z/\f.get 7=v/\f.get 28= .int .i64 (N.length:Nat)/\f.get 29= .int .i64 (i:Nat))
  (fun q f t=>(q= .ret/\me N M=none/\ar s2.next s2 t/\f.n=52/\f.get 2= .slice none 0 0/\f.get 3= .int .i64 4)\/(q= .exit 0/\∃v L,me N M=some L/\L.length=N.length/\Own t 5 v N.length (mP L)/\aH s2.next v/\ar s2.next s2 t/\f.n=52/\f.get 7=v))
  ⟨0,.slice none 0 0,[],rfl,by omega,rfl,by simp,.nil,aH.nil _,ar.refl _ _,by simp only[ag,hn],by simp only[aa,↓reduceIte,WP],by simp only[aa,↓reduceIte,WP],by simp only[aa,↓reduceIte,WP],by simp only[aa,↓reduceIte,WP],by simp only[aa,↓reduceIte];rfl⟩ ?_ ?_
 ·clear hn h0 f
  rintro Q hQ q f t ⟨i,v,L,rfl,hi,hLi,hM,hv,IK,aD,hn,h4,h5,h7,WX,Y6⟩
  have nt:=aD.next
  by_cases bc:i<N.length
  rotate_left
  ·obtain rfl:i=N.length:=by omega
   have d1:¬((N.length:Nat):Int)<((N.length:Nat):Int):=by omega
   rw[List.drop_length] at hM
   simp-implicitDefEqProofs(disch:=omega)only[aj,QS,↓reduceIte,hn,WX,Y6,eq_false d1]
   exact hQ _ _ _ (.inr ⟨rfl,v,L,by rw[hM];simp[me],hLi,hv,IK,aD,by simp only[ag,hn],by simp only[aa,↓reduceIte,WP,h7]⟩)
  have d1:(i:Int)<(N.length:Int):=by omega
  have xK:i<M.length:=by omega
  have hYt:=hY.keeps aD
  have hZt:=hZ.keeps aD
  have ln:=hYt.indexAddr (P:=Tryz.prog) (k:= .i64) (x:=(i:Int)) UO iH (by omega) (by omega)
  have hiz:=hZt.indexAddr (P:=Tryz.prog) (k:= .i64) (x:=(i:Int)) UO iH (by omega) (by omega)
  rw[Int.toNat_natCast] at ln hiz
  have hon:=(hyR.keeps cw aD).row i bc
  have fE:=(hzR.keeps cw aD).row i xK
  have hdN:N.drop i=N[i]::N.drop (i+1):=List.drop_eq_getElem_cons bc
  have hdM:M.drop i=M[i]::M.drop (i+1):=List.drop_eq_getElem_cons xK
  rw[hdN,hdM] at hM
  simp only[me] at hM
  have HN:=jZ _ (List.getElem_mem bc)
  have eI:=dg _ (List.getElem_mem xK)
  generalize N[i]=no at hM hon HN
  generalize M[i]=po at hM fE eI
  simp-implicitDefEqProofs(disch:=omega)only[aj,QS,WP,↓reduceIte,hn,WX,Y6,eq_true d1]
  obtain⟨B,hB⟩:∃B:Nat->Bool,B=fun j=>decide (j<t.next):=⟨_,rfl⟩
  have LO:∀j,B j=true->j<t.next:=by
   intro j h
   rw[hB] at h
   exact of_decide_eq_true h
  have hBo:∀j,j<t.next->B j=true:=fun j h=>by rw[hB];exact decide_eq_true h
  refine LB.da.fL B LO 1 1 (by kernel_rfl) (by kernel_rfl) ?_
  have oB:=ar.spare t 1
  have SF:(spare t 1).next=t.next+1:=bU _ _
  have iF:=(hYt.keeps oB).fm (P:=Tryz.prog) Gm iH bc
  have hlz:=(hZt.keeps oB).fm (P:=Tryz.prog) Gm iH xK
  generalize (LC.drop (i*5)).take 5=cn at iF hon
  generalize (MC.drop (i*5)).take 5=cp at hlz fE
  simp-implicitDefEqProofs(disch:=omega)only[aj,ak,bS,bT,Nat.sub_self,ad,QS,WP,↓reduceIte,hn,h4,h5,hYt.self,hZt.self,ln,hiz,iF,hlz,LA.mD hYt hBo bc,LA.mD hZt hBo xK,hon.self,fE.self]
  refine(Wg _ _ (spare t 1) cn cp no po (hon.keeps oB) (fE.keeps oB) eI).mono ?_
  rintro _ t2 ⟨rfl,k3⟩
  have n3:=k3.next
  refine⟨fun _=>LA.ar.OW LO (k3.weaken (by omega)),?_⟩
  obtain⟨R,hR⟩:∃R,R=pU no po:=⟨_,rfl⟩
  rw[<-hR] at hM|-
  obtain⟨l,b⟩:=R
  have y0:ba (.tuple #[fC l,.bool b]) 0=some (fC l):=rfl
  have y1:ba (.tuple #[fC l,.bool b]) 1=some (.bool b):=rfl
  have gF:cf (fC l) (fC l)=true:=by simp[cf,fK,cN,Lk.cells]
  have ag9:cf (.tuple #[fC l,.bool b]) (.tuple #[fC l,.bool b])=true:=by simp[cf,rE,AZ,fK,cN,Lk.cells]
  simp-implicitDefEqProofs(disch:=omega)only[aj,bS,bT,QS,WP,↓reduceIte,hn,y0,y1,gF,ag9,IQ,vo]
  refine LB.mC (by omega) ?_
  intro t3 iT lI xN
  have iT:av t3 t.next (⟨0,0,0,[],0⟩:Lk).cells:=iT
  simp-implicitDefEqProofs(disch:=omega)only[aj,bT,QS,WP,↓reduceIte,hn,hl6]
  refine LB.cF cV (by decide) iT rfl rfl rfl rfl (fun h=>absurd rfl h) ?_
  intro t4 tT uD UZ
  have tT:av t4 t.next l.cells:=tT
  have k4:ar t.next t t4:=(oB.trans (k3.weaken (by omega))).trans ⟨by omega,fun j hj=>by rw[UZ j (by omega),xN j (by omega)]⟩
  have m4:=k4.next
  have hv4:=hv.keeps k4
  have dY:=aD.trans (k4.weaken nt)
  cases b with
  |false=>
   dsimp only at hM
   rw[if_neg (by decide)] at hM
   simp-implicitDefEqProofs(disch:=omega)only[aj,QS,WP,↓reduceIte,aj,bS,bT,Nat.reduceSub,QS,WP,↓reduceIte,hn]
   exact hQ _ _ _ (.inl ⟨rfl,by rw[hM];rfl,dY,by simp only[ag,hn],by simp only[aa,↓reduceIte,WP],by simp only[aa,↓reduceIte]⟩)
  |true=>
  dsimp only at hM
  rw[if_pos rfl] at hM
  have la2:aR Tryz.prog t4 58 (.pointer (some ⟨t.next,0,some 6⟩))=some (fC l):=av.bu (P:=Tryz.prog) (cs:=l.cells) lB cV tT (c:=6) rfl
  simp-implicitDefEqProofs(disch:=omega)only[aj,ae,QS,WP,↓reduceIte,aj,bS,bT,Nat.reduceSub,ae,QS,WP,↓reduceIte,hn,h7,la2,fM (cs:=l.cells.toArray) UK cV IQ vo rfl rfl (by decide)]
  refine aQ (by rfl) ?_
  intro w t5 hw xC k5
  have m5:=k5.next
  simp-implicitDefEqProofs(disch:=omega)only[aj,ad,QS,WP,↓reduceIte,hn]
  refine bV UK UK (.inl ⟨_,rfl⟩) cV Wo IQ rfl (hv4.keeps k5) hw.aG.src rfl (by decide) rfl (by omega) (by omega) IK (by omega) ?_
  intro v' t6 hv' ac2 k6 _ _
  simp-implicitDefEqProofs(disch:=omega)only[aj,QS,WP,↓reduceIte,hn,Y6,aB]
  refine au (N.length-(i+1)) (by omega) ⟨i+1,v',L++[l],rfl,by omega,by simp[hLi],?_,by rw[C2];simpa [mP] using hv',ac2,(dY.trans (k5.weaken (by omega))).trans k6,by simp only[ag,hn],by simp only[aa,↓reduceIte,WP,h4],by simp only[aa,↓reduceIte,WP,h5],by simp only[aa,↓reduceIte,WP],by simp only[aa,↓reduceIte,WP,WX],by simp only[aa,↓reduceIte];rfl⟩
  rw[hM,Option.map_map]
  congr 1
  funext x
  simp
 clear hn h0 f
 rintro _ f u (⟨rfl,hM,hu,hn,h2,h3⟩|⟨rfl,v,L,hM,hLl,hv,IK,hu,hn,h7⟩)
 ·rw[hM] at N4
  simp-implicitDefEqProofs(disch:=omega)only[aj,al,oneOf,QS,↓reduceIte,hn,h2,h3,Tryz.results12]
  rw[gp,N4]
  exact⟨_,rfl,.nil,aH.nil _,aU.trans (hu.weaken aU.next)⟩
 ·rw[hM] at N4
  simp-implicitDefEqProofs(disch:=omega)only[aj,al,oneOf,QS,WP,↓reduceIte,hn,h7,Tryz.results12]
  rw[gp,N4]
  exact⟨v,rfl,by rw[<-hLl] at hv;exact hv,fun j hj=>by have:=IK j hj;have:=aU.next;omega,aU.trans (hu.weaken aU.next)⟩
end Go.Proofs.YtdfjfncifneocaaGreat
set_option linter.unusedSimpArgs false
set_option linter.unusedVariables false
set_option maxRecDepth 100000
namespace Go.Proofs.YtdfjfncifneocaaGreat
open Go.Cl Go.Cl.Pr Go.Cl.Ch
def gm:List Lk->List UInt8->Int->List UInt8×Int
 |[],b,_=>(b,0)
 |l::r,b,m=>if(eY l b m).2≠0 then([],(eY l b m).2) else gm r (eY l b m).1 m
def So (o:O)(m:Int):List UInt8×Int:=
 if(ig o).2≠0 then([],(ig o).2) else if¬∀l∈(ig o).1,l.name∈mG then([],11) else gm (ig o).1 o.bytes m
end Go.Proofs.YtdfjfncifneocaaGreat
set_option linter.unusedSimpArgs false
set_option linter.unusedVariables false
set_option maxRecDepth 100000
namespace Go.Proofs.YtdfjfncifneocaaGreat
open Go.Cl Go.Cl.Pr Go.Cl.Ch Go.Cl.Hx Go.Cl.B85
def G5:List Lk->List UInt8->Int->Prop
 |[],_,_=>True
 |l::r,b,m=>b.length<=100000/\acR l b/\((eY l b m).2=0->G5 r (eY l b m).1 m)
set_option maxHeartbeats 8000000 in
theorem xp (F:Nat->Prop)(s:aq)(cs:List Value)(o:O)(ho:dk F s cs o)(lP:Small o)(m:Int)(hm:m<=20000000)(hL:(ig o).1.length<=1000)(kA:G5 (ig o).1 o.bytes m)(N5:∀l∈(ig o).1,l.p=1/\l.co=1/\l.cl=1):
  Runs Tryz.prog eC 14 [.agg cs.toArray,.int .i64 m] s (uf s (So o m)):=by
 have jH:=ho.len
 obtain⟨QQ,gp⟩:∃QQ:Value->aq->Prop,QQ=uf s (So o m):=⟨_,rfl⟩
 rw[<-gp]
 refine Runs.enter 52 Tryz.func14 rfl rfl rfl rfl ?_
 intro f hn hf
 have h0:f.get 0= .agg cs.toArray:=hf 0
 have h1:f.get 1= .int .i64 m:=hf 1
 clear hf
 have UK:=Tryz.underlying31
 have IQ:bW Tryz.prog 58=some (fC ⟨0,0,0,[],0⟩):=by kernel_rfl
 have vo:bP (fC ⟨0,0,0,[],0⟩)=true:=by kernel_rfl
 have hl6:(⟨0,0,0,[],0⟩:Lk).cells.length+1=6:=rfl
 simp-implicitDefEqProofs(disch:=omega)only[aj,QS,↓reduceIte,hn,h0]
 refine ax ?_
 intro s1 eO bm iY
 have n1:=bm.next
 simp-implicitDefEqProofs(disch:=omega)only[aj,ak,ad,QS,WP,Nat.reduceAdd,↓reduceIte,hn,jH,av.ga eO jH]
 refine(Lp F s1 cs o (ho.keeps bm) lP).mono ?_
 obtain⟨R,hR⟩:∃R,R=ig o:=⟨_,rfl⟩
 have hD:So o m=if R.2≠0 then([],R.2) else if¬∀l∈R.1,l.name∈mG then([],11) else gm R.1 o.bytes m:=by unfold So;rw[<-hR]
 rw[<-hR] at kA hL N5|-
 obtain⟨L,e⟩:=R
 dsimp only at hD kA hL N5
 rintro _ s2 ⟨y,rfl,hy,kJ,k2⟩
 dsimp only at hy|-
 have n2:=k2.next
 have aU:ar s.next s s2:=bm.trans (k2.weaken n1)
 have x0:ba (.tuple #[y,.int .i64 e]) 0=some y:=rfl
 have x1:ba (.tuple #[y,.int .i64 e]) 1=some (.int .i64 e):=rfl
 by_cases c0:e=0
 rotate_left
 ·simp-implicitDefEqProofs(disch:=omega)only[aj,ak,al,oneOf,QS,WP,↓reduceIte,hn,x0,x1,decide_not,decide_eq_false c0,Tryz.results14]
  rw[gp,hD,if_pos c0]
  exact⟨_,rfl,⟨.nil,aH.nil _,aU⟩⟩
 rw[if_neg (fun h=>h c0)] at hD
 simp-implicitDefEqProofs(disch:=omega)only[aj,ak,ad,QS,WP,↓reduceIte,hn,x0,x1,decide_not,decide_eq_true c0,hy.aG.bh UK]
 refine Comes.bK (fun q f t=>∃i:Nat,q=L.length-i/\i<=L.length/\(∀l∈L.take i,l.name∈mG)/\ar s2.next s2 t/\f.n=52/\f.get 1= .int .i64 m/\f.get 2= .pointer (some ⟨s.next,0,some 6⟩)/\f.get 6=y/\f.get 21=y/\f.get 22= .int .i64 (L.length:Nat)/\f.get 23= .int .i64 (i:Nat))
  (fun q f t=>(q= .ret/\(¬∀l∈L,l.name∈mG)/\ar s2.next s2 t/\f.n=52/\f.get 4= .slice none 0 0/\f.get 5= .int .i64 11)\/(q= .exit 0/\(∀l∈L,l.name∈mG)/\ar s2.next s2 t/\f.n=52/\f.get 1= .int .i64 m/\f.get 2= .pointer (some ⟨s.next,0,some 6⟩)/\f.get 6=y))
  ⟨0,rfl,by omega,by simp,ar.refl _ _,by simp only[ag,hn],by simp only[aa,↓reduceIte,WP,h1],by simp only[aa,↓reduceIte,WP],by simp only[aa,↓reduceIte,WP],by simp only[aa,↓reduceIte,WP],by simp only[aa,↓reduceIte,WP],by simp only[aa,↓reduceIte];rfl⟩ ?_ ?_
 ·clear hn h0 h1 f
  rintro Q hQ q f t ⟨i,rfl,hi,dN,aD,hn,h1,h2,h6,h21,h22,WV⟩
  have nt:=aD.next
  by_cases bc:i<L.length
  rotate_left
  ·obtain rfl:i=L.length:=by omega
   have d1:¬((L.length:Nat):Int)<((L.length:Nat):Int):=by omega
   rw[List.take_length] at dN
   simp-implicitDefEqProofs(disch:=omega)only[aj,QS,↓reduceIte,hn,h22,WV,eq_false d1]
   exact hQ _ _ _ (.inr ⟨rfl,dN,aD,by simp only[ag,hn],by simp only[aa,↓reduceIte,WP,h1],by simp only[aa,↓reduceIte,WP,h2],by simp only[aa,↓reduceIte,WP,h6]⟩)
  have d1:(i:Int)<(L.length:Int):=by omega
  have N6:=hy.keeps aD
  have ln:=N6.aG.indexAddr (P:=Tryz.prog) (k:= .i64) (x:=(i:Int)) UK cV (by omega) (by omega)
  rw[Int.toNat_natCast] at ln
  have iF:=N6.aG.fm (P:=Tryz.prog) lB cV bc
  rw[u7 bc] at iF
  obtain⟨l,hl⟩:∃l,l=L[i]:=⟨_,rfl⟩
  rw[<-hl] at iF
  simp-implicitDefEqProofs(disch:=omega)only[aj,QS,WP,↓reduceIte,hn,h21,h22,WV,eq_true d1,ln,iF,IQ,vo]
  refine ax ?_
  intro s7 tI mF rq
  simp-implicitDefEqProofs(disch:=omega)only[aj,QS,WP,↓reduceIte,hn,hl6]
  refine aA cV (by decide) tI rfl rfl rfl rfl ?_
  intro s8 uj Q7 UT
  have uj:av s8 t.next l.cells:=uj
  have n7:=mF.next
  have k8:ar t.next t s8:=mF.trans ⟨by omega,fun j hj=>UT j (by omega)⟩
  have la:aR Tryz.prog s8 58 (.pointer (some ⟨t.next,0,some 6⟩))=some (fC l):=av.bu (P:=Tryz.prog) (cs:=l.cells) lB cV uj (c:=6) rfl
  simp-implicitDefEqProofs(disch:=omega)only[aj,ak,ad,QS,↓reduceIte,hn,la]
  refine(Gs s8 l).mono ?_
  rintro _ s9 ⟨rfl,k9⟩
  have sK:ar s2.next s2 s9:=(aD.trans (k8.weaken nt)).trans (k9.weaken (by have:=k8.next;omega))
  by_cases c1:l.name∈mG
  rotate_left
  ·rw[decide_eq_false c1]
   simp-implicitDefEqProofs(disch:=omega)only[aj,QS,↓reduceIte,hn]
   exact hQ _ _ _ (.inl ⟨rfl,fun h=>c1 (h l (by rw[hl];exact List.getElem_mem bc)),sK,by simp only[ag,hn],by simp only[aa,↓reduceIte,WP],by simp only[aa,↓reduceIte]⟩)
  rw[decide_eq_true c1]
  simp-implicitDefEqProofs(disch:=omega)only[aj,QS,WP,↓reduceIte,hn,WV,aB]
  refine au (L.length-(i+1)) (by omega) ⟨i+1,rfl,by omega,fun a ha=> ?_,sK,by simp only[ag,hn],by simp only[aa,↓reduceIte,WP,h1],by simp only[aa,↓reduceIte,WP,h2],by simp only[aa,↓reduceIte,WP,h6],by simp only[aa,↓reduceIte,WP,h21],by simp only[aa,↓reduceIte,WP,h22],by simp only[aa,↓reduceIte];rfl⟩
  rw[List.take_succ_eq_append_getElem bc,<-hl] at ha
  rcases List.mem_append.1 ha with ha|ha
  ·exact dN a ha
  ·rw[List.mem_singleton.1 ha];exact c1
 clear hn h0 h1 f
 rintro _ f t (⟨rfl,lQ,aD,hn,h4,h5⟩|⟨rfl,dN,aD,hn,h1,h2,h6⟩)
 ·simp-implicitDefEqProofs(disch:=omega)only[aj,al,oneOf,QS,↓reduceIte,hn,h4,h5,Tryz.results14]
  rw[gp,hD,if_pos lQ]
  exact⟨_,rfl,⟨.nil,aH.nil _,aU.trans (aD.weaken aU.next)⟩⟩
 rw[if_neg (fun h=>h dN)] at hD
 have nt:=aD.next
 have bH:ar s.next s t:=aU.trans (aD.weaken aU.next)
 obtain⟨bv,wT,m8,nP⟩:∃bv,cs.getD 2 undef=bv/\aN s 1 bv o.bytes.length (ofBytes o.bytes)/\o.bytes.length<=100000000:=by
  cases o with
  |mk k n b l d=>obtain⟨bv,lv,dv,lc,dc,rfl,h1,-⟩:=ho.parts;exact⟨bv,rfl,h1,by cases lP with|mk hb=>exact hb⟩
 have alF:=(eO.keeps k2).keeps aD
 have l2:aR Tryz.prog t 22 (.pointer (some ⟨s.next,2,some 6⟩))=some bv:=by
  have:=alF.load (P:=Tryz.prog) gw (off:=2) (c:=6) (by omega) (by omega)
  rw[this,wT]
 simp-implicitDefEqProofs(disch:=omega)only[aj,ak,ad,QS,↓reduceIte,hn,h2,of2,l2]
 refine(vm (lib:=eC) rfl t bv o.bytes (m8.keeps bH) (by omega)).mono ?_
 intro v0 t0 Y7
 have k0:=Y7.stay
 have N6:=hy.keeps (aD.trans (k0.weaken nt))
 obtain⟨b0,uv⟩:∃b,b=o.bytes:=⟨_,rfl⟩
 rw[<-uv] at Y7 hD kA
 have nt0:=k0.next
 have dY:ar s.next s t0:=bH.trans (k0.weaken bH.next)
 simp-implicitDefEqProofs(disch:=omega)only[aj,ad,QS,WP,↓reduceIte,hn,h6,N6.aG.bh UK]
 refine Comes.bK (fun q f u=>∃(i:Nat) (v:Value) (c:List UInt8) (z:Int),q=L.length-i/\i<=L.length/\gm L b0 m=gm (L.drop i) c m/\G5 (L.drop i) c m/\Own u 1 v c.length (ofBytes c)/\aH s.next v/\ar t0.next t0 u/\f.n=52/\f.get 1= .int .i64 m/\f.get 10=v/\f.get 34=y/\f.get 35= .int .i64 (L.length:Nat)/\f.get 36= .int .i64 (i:Nat))
  (fun q f u=>(q= .ret/\∃z:Int,gm L b0 m=([],z)/\ar t0.next t0 u/\f.n=52/\f.get 4= .slice none 0 0/\f.get 5= .int .i64 z)\/(q= .exit 2/\∃v c,gm L b0 m=(c,0)/\Own u 1 v c.length (ofBytes c)/\aH s.next v/\ar t0.next t0 u/\f.n=52/\f.get 10=v))
  ⟨0,v0,b0,0,rfl,by omega,rfl,kA,Y7.own,fun j hj=>by have:=Y7.fresh j hj;have:=bH.next;omega,ar.refl _ _,by simp only[ag,hn],by simp only[aa,↓reduceIte,WP,h1],by simp only[aa,↓reduceIte,WP],by simp only[aa,↓reduceIte,WP],by simp only[aa,↓reduceIte,WP],by simp only[aa,↓reduceIte];rfl⟩ ?_ ?_
 ·clear hn h1 h2 h6 f
  rintro Q hQ q f u ⟨i,v,c,_,rfl,hi,hU,hF,hv,IK,aD,hn,h1,gK,vw,h35,h36⟩
  have nu:=aD.next
  by_cases bc:i<L.length
  rotate_left
  ·obtain rfl:i=L.length:=by omega
   have d1:¬((L.length:Nat):Int)<((L.length:Nat):Int):=by omega
   rw[List.drop_length] at hU
   simp-implicitDefEqProofs(disch:=omega)only[aj,QS,↓reduceIte,hn,h35,h36,eq_false d1]
   exact hQ _ _ _ (.inr ⟨rfl,v,c,hU,hv,IK,aD,by simp only[ag,hn],by simp only[aa,↓reduceIte,WP,gK]⟩)
  have d1:(i:Int)<(L.length:Int):=by omega
  have N6:=N6.keeps aD
  have ln:=N6.aG.indexAddr (P:=Tryz.prog) (k:= .i64) (x:=(i:Int)) UK cV (by omega) (by omega)
  rw[Int.toNat_natCast] at ln
  have iF:=N6.aG.fm (P:=Tryz.prog) lB cV bc
  rw[u7 bc] at iF
  obtain⟨l,hl⟩:∃l,l=L[i]:=⟨_,rfl⟩
  have F5:L.drop i=l::L.drop (i+1):=by rw[List.drop_eq_getElem_cons bc,hl]
  rw[<-hl] at iF
  rw[F5] at hU hF
  obtain⟨hc,HW,Zk⟩:=hF
  simp-implicitDefEqProofs(disch:=omega)only[aj,QS,WP,↓reduceIte,hn,vw,h35,h36,eq_true d1,ln,iF,IQ,vo]
  refine ax ?_
  intro s7 tI mF rq
  simp-implicitDefEqProofs(disch:=omega)only[aj,QS,WP,↓reduceIte,hn,hl6]
  refine aA cV (by decide) tI rfl rfl rfl rfl ?_
  intro s8 uj Q7 UT
  have uj:av s8 u.next l.cells:=uj
  have n7:=mF.next
  have k8:ar u.next u s8:=mF.trans ⟨by omega,fun j hj=>UT j (by omega)⟩
  have la:aR Tryz.prog s8 58 (.pointer (some ⟨u.next,0,some 6⟩))=some (fC l):=av.bu (P:=Tryz.prog) (cs:=l.cells) lB cV uj (c:=6) rfl
  simp-implicitDefEqProofs(disch:=omega)only[aj,ak,ad,QS,WP,↓reduceIte,hn,h1,gK,la]
  refine(Wf s8 l (N5 l (by rw[hl];exact List.getElem_mem bc)) v c HW m (hv.keeps k8).aG hc hm).mono ?_
  rintro _ s9 ⟨w,rfl,hw⟩
  have k9:=hw.stay
  have x0:∀z,ba (.tuple #[w,z]) 0=some w:=fun _=>rfl
  have x1:∀z,ba (.tuple #[w,z]) 1=some z:=fun _=>rfl
  have n8:=k8.next
  have sK:ar t0.next t0 s9:=(aD.trans (k8.weaken nu)).trans (k9.weaken (by omega))
  simp only[gm] at hU
  by_cases ce:(eY l c m).2=0
  rotate_left
  ·rw[if_pos ce] at hU
   simp-implicitDefEqProofs(disch:=omega)only[aj,ak,QS,WP,↓reduceIte,hn,x0,x1,decide_not,decide_eq_false ce]
   exact hQ _ _ _ (.inl ⟨rfl,_,hU,sK,by simp only[ag,hn],by simp only[aa,↓reduceIte,WP],by simp only[aa,↓reduceIte]⟩)
  rw[if_neg (fun h=>h ce)] at hU
  simp-implicitDefEqProofs(disch:=omega)only[aj,ak,QS,WP,↓reduceIte,hn,h36,x0,x1,decide_not,decide_eq_true ce,aB]
  refine au (L.length-(i+1)) (by omega) ⟨i+1,w,_,0,rfl,by omega,hU,Zk ce,hw.own,fun j hj=>by have:=hw.fresh j hj;have:=dY.next;omega,sK,by simp only[ag,hn],by simp only[aa,↓reduceIte,WP,h1],by simp only[aa,↓reduceIte,WP],by simp only[aa,↓reduceIte,WP,vw],by simp only[aa,↓reduceIte,WP,h35],by simp only[aa,↓reduceIte];rfl⟩
 clear hn h1 h2 h6 f
 rintro _ f u (⟨rfl,z,hU,aD,hn,h4,h5⟩|⟨rfl,v,c,hU,hv,IK,aD,hn,gK⟩)
 ·rw[hU] at hD
  simp-implicitDefEqProofs(disch:=omega)only[aj,al,oneOf,QS,↓reduceIte,hn,h4,h5,Tryz.results14]
  rw[gp,hD]
  exact⟨_,rfl,⟨.nil,aH.nil _,dY.trans (aD.weaken dY.next)⟩⟩
 ·rw[hU] at hD
  simp-implicitDefEqProofs(disch:=omega)only[aj,al,oneOf,QS,WP,↓reduceIte,hn,gK,Tryz.results14]
  rw[gp,hD]
  exact⟨v,rfl,⟨hv,IK,dY.trans (aD.weaken dY.next)⟩⟩
end Go.Proofs.YtdfjfncifneocaaGreat
namespace Go.Cl.Ch
open Go.Cl.Pr Go.Cl.Hx Go.Cl.B85
theorem ac6:∀(n:Nat) (l:List UInt8),l.length<=n->(Ez l).length<=2*l.length+2:=by
 intro n
 induction n with
 |zero=>
  intro l hl
  have:l=[]:=List.eq_nil_of_length_eq_zero (by omega)
  subst this
  rw[oh];simp
 |succ n ih=>
  intro l hl
  by_cases h:l=[]
  ·subst h;rw[oh];simp
  have hp:0<l.length:=List.length_pos_iff.mpr h
  have:=ih (l.drop (min 4 l.length)) (by rw[List.length_drop];omega)
  rw[List.length_drop] at this
  by_cases h2:min 4 l.length=4/\val l 4=0
  ·rw[Uw h h2,List.length_cons];omega
  ·rw[nv h h2,List.length_append,List.length_take];omega
theorem ac7 (l:List UInt8):(Fx.xA l).length<=l.length+l.length/1000+11:=by
 have h1:(Fx.xA l).length=(Fx.jd l).length+6:=by unfold Fx.xA;simp[pD]
 have h2:=Fx.J0 l
 have h3:=Sto.qm _ l (Nat.le_refl _)
 unfold Sto.blocks at h3
 omega
theorem ac8 (l:List UInt8):8*(Lz.Gg l).length<=13*l.length+41:=by
 have h1:=Lz.Gj l
 have h2:(Lz.Gg l).length=((Lz.np l).length+7)/8:=Lz.sQ _ _ (Nat.le_refl _)
 omega
theorem ac9 (l:Lk)(b:List UInt8):4*((rA l b).1.length+14)<=13*(b.length+14):=by
 have hp:=JB l.p l.co l.cl b
 unfold rA
 split
 ·have:=zG b
  simp only[hex,List.length_append,List.length_singleton];omega
 split
 ·have:=ac6 b.length b (Nat.le_refl _);simp only;omega
 split
 ·have:=Runs.H0 b.length b (Nat.le_refl _);simp only;omega
 split
 ·simp only[List.length_nil];omega
 split
 ·have:=ac7 (iU l.p l.co l.cl b).1;simp only;omega
 ·have:=ac8 (iU l.p l.co l.cl b).1;simp only;omega
theorem AP:∀(L:List Lk) (b:List UInt8),4^L.length*((df L b).1.length+14)<=13^L.length*(b.length+14)
 |[],b=>by simp[df]
 |l::L,b=>by
  have ih:=AP L b
  rw[List.length_cons,Nat.pow_succ,Nat.pow_succ]
  simp only[df]
  split
  ·simp only[List.length_nil,Nat.zero_add]
   have h4:4^L.length<=13^L.length:=Nat.pow_le_pow_left (by decide) _
   have Sc:4^L.length*4*14<=13^L.length*13*14:=Nat.mul_le_mul_right _ (Nat.mul_le_mul h4 (by decide))
   exact Nat.le_trans Sc (Nat.mul_le_mul_left _ (by omega))
  ·have h:=ac9 l (df L b).1
   have e1:4^L.length*4*((rA l (df L b).1).1.length+14)=4^L.length*(4*((rA l (df L b).1).1.length+14)):=Nat.mul_assoc _ _ _
   have e2:4^L.length*(13*((df L b).1.length+14))=13*(4^L.length*((df L b).1.length+14)):=Nat.mul_left_comm _ _ _
   have e3:13^L.length*13*(b.length+14)=13*(13^L.length*(b.length+14)):=by rw[Nat.mul_comm (13^L.length) 13,Nat.mul_assoc]
   rw[e1,e3]
   exact Nat.le_trans (Nat.mul_le_mul_left _ h) (by rw[e2];exact Nat.mul_le_mul_left _ ih)
theorem G6 {L:List Lk}{b:List UInt8}(hL:L.length<=7)(hb:b.length<=400):(df L b).1.length<=2000000:=by
 have h:=AP L b
 obtain⟨n,hn⟩:∃n,n=L.length:=⟨_,rfl⟩
 rw[<-hn] at h hL
 have:n=0\/n=1\/n=2\/n=3\/n=4\/n=5\/n=6\/n=7:=by omega
 rcases this with rfl|rfl|rfl|rfl|rfl|rfl|rfl|rfl<;>simp at h<;>omega
theorem N7 {L:List Lk}{b:List UInt8}(hL:L.length<=8)(hb:b.length<=400):(df L b).1.length<=7000000:=by
 have h:=AP L b
 obtain⟨n,hn⟩:∃n,n=L.length:=⟨_,rfl⟩
 rw[<-hn] at h hL
 have:n<=7\/n=8:=by omega
 rcases this with h7|rfl
 ·have:=G6 (L:=L) (b:=b) (by omega) hb;omega
 ·simp at h;omega
end Go.Cl.Ch
set_option linter.unusedSimpArgs false
set_option linter.unusedVariables false
set_option maxRecDepth 100000
namespace Go.Cl.Ch
def gQ (L:List Lk)(i:Nat):List Lk:=(L.take i).map fG++L.drop i
theorem Sp (L:List Lk):gQ L 0=L:=by simp[gQ]
theorem Wp (L:List Lk):gQ L L.length=L.map fG:=by simp[gQ]
theorem Lq (L:List Lk)(i:Nat)(h:i<=L.length):(gQ L i).length=L.length:=by simp[gQ];omega
theorem Lr {L:List Lk}{i:Nat}(h:i<L.length):((L.take i).map fG).length=i:=by rw[List.length_map,List.length_take];omega
theorem Y8 {L:List Lk}{i:Nat}(h:i<L.length):(gQ L i)[i]?=some L[i]:=by
 have e:=Lr h
 unfold gQ
 rw[List.getElem?_append_right (by omega),List.getElem?_drop,e,Nat.sub_self,Nat.add_zero,List.getElem?_eq_getElem h]
theorem Sq {L:List Lk}{i:Nat}(h:i<L.length):gQ L (i+1)=(gQ L i).set i (fG L[i]):=by
 have e:=Lr h
 unfold gQ
 rw[List.set_append_right _ _ (by omega),e,Nat.sub_self,List.take_succ_eq_append_getElem h,List.map_append,List.drop_eq_getElem_cons h,List.set_cons_zero,List.append_assoc]
 rfl
theorem Qa {L:List Lk}{i:Nat}(h:i<L.length)(l:Lk):mP (L.set i l)=(mP L).take (i*5)++l.cells++(mP L).drop (i*5+5):=by
 induction L generalizing i with
 |nil=>simp at h
 |cons a L ih=>
  cases i with
  |zero=>simp[mP,Lk.cells]
  |succ i=>
   have:=ih (i:=i) (by simpa using h)
   simp only[mP,List.set_cons_succ,List.map_cons,List.flatten_cons] at this|-
   rw[this]
   have ha:a.cells.length=5:=rfl
   rw[show(i+1)*5=a.cells.length+i*5 by omega,List.take_length_add_append,show a.cells.length+i*5+5=a.cells.length+(i*5+5) by omega,List.drop_length_add_append]
   simp only[List.append_assoc]
theorem Wq {L:List Lk}{i:Nat}(h:i<L.length)(a b c:Int):over (mP L) (i*5+0) [.int .i64 a,.int .i64 b,.int .i64 c]=mP (L.set i {L[i] with p:=a,co:=b,cl:=c}):=by
 rw[Qa h]
 unfold over
 have e:=u7 h
 have e2:(mP L).drop (i*5+3)=(L[i].cells).drop 3++(mP L).drop (i*5+5):=by
  have e3:(mP L).drop (i*5)=L[i].cells++(mP L).drop (i*5+5):=by
   rw[<-e,<-List.drop_drop,List.take_append_drop]
  rw[<-List.drop_drop,e3,List.drop_append]
  rfl
 rw[Nat.add_zero]
 show _++_++(mP L).drop (i*5+3)=_
 rw[e2]
 simp[Lk.cells]
theorem Sr {M:List Lk}{b:List UInt8}{k:Nat}(ce:(df (M.drop k) b).2≠0)(hk:k<=M.length):∀j,j<=k->(df (M.drop j) b).2=(df (M.drop k) b).2/\(df (M.drop j) b).2≠0:=by
 intro j hj
 obtain⟨d,hd⟩:∃d,d=k-j:=⟨_,rfl⟩
 induction d generalizing j with
 |zero=>
  obtain rfl:j=k:=by omega
  exact⟨rfl,ce⟩
 |succ d ih=>
  obtain⟨i1,i2⟩:=ih (j+1) (by omega) (by omega)
  have hj2:j<M.length:=by omega
  rw[List.drop_eq_getElem_cons hj2]
  simp only[df]
  rw[if_pos i2]
  exact⟨i1,i2⟩
theorem G7 {M:List Lk}(dF:∀l∈M,okL l):∀l∈M,l.name.length<=100000:=fun l hl=>by
 have:=(dF l hl).1
 simp only[mG,List.mem_cons,List.not_mem_nil,or_false] at this
 rcases this with h|h|h|h|h<;>(rw[h];decide)
def EM (L:List Lk)(b:List UInt8):O×Int:=
 if¬∀l∈L.map fG,okL l then(O.none,1) else if 8<L.length then(O.none,3)
 else if(df (L.map fG) b).2≠0 then(O.none,(df (L.map fG) b).2) else(.mk 8 0 (df (L.map fG) b).1 [] (cX [] (jN (L.map fG))),0)
end Go.Cl.Ch
namespace Go.Proofs.YtdfjfncifneocaaGreat
open Go.Cl Go.Cl.Pr Go.Cl.Ch
theorem ahb {s:aq}{v:Value}{n:Nat}{l:List Value}(h:aN s 5 v n l){k:Nat}(hk:k<n):ay Tryz.prog 58 (bJ 5 v k) 0=some (ft (bJ 5 v k) 0):=by
 obtain⟨i,off,c,e1,_⟩:=h.cells hk
 rw[e1]
 unfold ay;rw[Tryz.underlying58];simp[ft,qS]
theorem alG (p co cl:Int):cI Tryz.prog .eql 56 (i3 p co cl) (i3 0 0 0)=some (.bool (decide (p=0/\co=0/\cl=0))):=by
 have h:AS Tryz.prog 56 #[.int .i64 p,.int .i64 co,.int .i64 cl] #[.int .i64 0,.int .i64 0,.int .i64 0]=some (p==0&&(co==0&&(cl==0&&true))):=by kernel_rfl
 simp only[cI,h]
 congr 2
 rw[Bool.eq_iff_iff]
 simp
theorem Y9 (s:aq)(x:Value)(n:Nat)(lx:List Value)(hx:aN s 5 x n lx)(u0:n<=1000000)(dF:lx.all aJ=true):
  Runs Tryz.prog eC 44 [x] s fun v s' =>Own s' 5 v n lx/\aH s.next v/\ar s.next s s' :=by
 refine Runs.enter 8 Tryz.func44 rfl rfl rfl rfl ?_
 intro f hn hf
 have h0:f.get 0=x:=hf 0
 clear hf
 have UK:=Tryz.underlying31
 have IQ:bW Tryz.prog 58=some (fC ⟨0,0,0,[],0⟩):=by kernel_rfl
 have vo:bP (fC ⟨0,0,0,[],0⟩)=true:=by kernel_rfl
 have Wo:fe Tryz.prog 58=some 48:=by kernel_rfl
 simp-implicitDefEqProofs(disch:=omega)only[aj,QS,WP,↓reduceIte,hn,h0,hx.nV UK]
 refine iq (fun h=> ?_) (fun h=> ?_)
 ·obtain⟨h1,h2,_⟩:=hx.isNil h
  subst h1
  have:lx=[]:=List.eq_nil_of_length_eq_zero (by have:=hx.length;omega)
  subst this
  simp-implicitDefEqProofs(disch:=omega)only[aj,al,oneOf,QS,↓reduceIte,hn,Tryz.results44]
  exact⟨.nil,aH.nil _,ar.refl _ _⟩
 ·simp-implicitDefEqProofs(disch:=omega)only[aj,ae,uH UK cV IQ vo rfl]
  refine aQ (by rfl) ?_
  intro b s1 hb hF aD
  simp-implicitDefEqProofs(disch:=omega)only[aj,ad,QS,WP,↓reduceIte,hn,h0]
  refine bV UK UK (.inl ⟨_,rfl⟩) cV Wo IQ rfl hb (hx.keeps aD).src hx.length (by decide) dF (by omega) (by omega) hF aD.next ?_
  intro b' s2 oT HO dC _ _
  simp-implicitDefEqProofs(disch:=omega)only[aj,al,oneOf,QS,↓reduceIte,hn,Tryz.results44]
  exact⟨by simpa using oT,HO,aD.trans dC⟩
def aay (s:aq)(p:O×Int)(v:Value)(s' :aq):Prop:=∃cs,v= .tuple #[.agg cs.toArray,.int .i64 p.2]/\dk (fun j=>s.next<=j) s' cs p.1/\ar s.next s s'
end Go.Proofs.YtdfjfncifneocaaGreat
namespace Go.Cl.Nf
open Go.Cl.Sto Go.Cl.Fx
theorem DO {M b:Nat}:∀{n:Nat} {P P' :List UInt8},rep M b n P= .ok P' ->P.length<=P'.length
 |0,P,P',h=>by cases h;exact Nat.le_refl _
 |n+1,P,P',h=>by
  unfold rep at h
  split at h
  ·cases h
  ·have:=DO h
   rw[List.length_append] at this
   omega
theorem yJ {D:List UInt8}{M:Nat}:∀{k a:Nat} {P:List UInt8} {q:Nat} {P' :List UInt8},oQ D M k a P= .ok (q,P')->P.length<=P'.length
 |0,a,P,q,P',h=>by cases h;exact Nat.le_refl _
 |k+1,a,P,q,P',h=>by
  unfold oQ at h
  split at h
  ·split at h
   ·cases h
   ·have:=yJ h
    rw[List.length_append] at this
    omega
  ·cases h
theorem IC {D:List UInt8}{M p:Nat}{P:List UInt8}{q:Nat}{P' :List UInt8}(h:gM D M p P= .ok (q,P')):P.length<=P'.length:=by
 unfold gM at h
 repeat' split at h
 all_goals first|(cases h;done)|exact yJ h
theorem N8 {D:List UInt8}{M:Nat}{B:List Nat}{s p:Nat}{P:List UInt8}{q:Nat}{P' :List UInt8}(h:kn D M B s p P= .ok (q,P')):P.length<=P'.length:=by
 unfold kn at h
 repeat' split at h
 all_goals first|(cases h;done)|(cases h;exact DO ‹_›)
theorem lH {D:List UInt8}{M:Nat}{A B:List Nat}:∀{k p:Nat} {P:List UInt8} {q:Nat} {P' :List UInt8},fP D M A B k p P= .ok (q,P')->P.length<=P'.length
 |0,p,P,q,P',h=>by cases h
 |k+1,p,P,q,P',h=>by
  unfold fP at h
  repeat' split at h
  all_goals first
   |(cases h;done)
   |(cases h;exact Nat.le_refl _)
   |(have:=lH h;rw[List.length_append] at this;omega)
   |exact Nat.le_trans (N8 ‹_›) (lH h)
theorem N9 {N:Nat}{D:List UInt8}{M kind p:Nat}{P:List UInt8}{q:Nat}{P' :List UInt8}(h:gN N D M kind p P= .ok (q,P')):P.length<=P'.length:=by
 unfold gN at h
 repeat' split at h
 all_goals first|(cases h;done)|exact IC h|exact lH h
theorem z6 {N:Nat}{D:List UInt8}{M p:Nat}{P:List UInt8}{b q:Nat}{P' :List UInt8}(h:eH N D M p P= .ok (b,q,P')):P.length<=P'.length:=by
 unfold eH at h
 repeat' split at h
 all_goals first|(cases h;done)|(cases h;exact N9 ‹_›)
theorem xq {N:Nat}{D:List UInt8}{M:Nat}:∀{k p:Nat} {P:List UInt8} {q:Nat} {P' :List UInt8},fw N D M k p P= .ok (q,P')->P.length<=P'.length
 |0,p,P,q,P',h=>by cases h
 |k+1,p,P,q,P',h=>by
  unfold fw at h
  repeat' split at h
  all_goals first
   |(cases h;done)
   |(cases h;exact z6 ‹_›)
   |exact Nat.le_trans (z6 ‹_›) (xq h)
theorem Qb {M M' b:Nat}(hM:M<=M'):∀{n:Nat} {P P' :List UInt8},rep M' b n P= .ok P' ->P.length<=M->(P'.length<=M/\rep M b n P= .ok P')\/(M<P'.length/\rep M b n P= .error 7)
 |0,P,P',h,hP=>by cases h;exact .inl ⟨hP,rfl⟩
 |n+1,P,P',h,hP=>by
  unfold rep at h|-
  by_cases c:M<=P.length
  ·rw[if_pos c]
   split at h
   ·cases h
   ·have:=DO h
    rw[List.length_append] at this
    exact .inr ⟨by simp at this;omega,rfl⟩
  ·rw[if_neg c]
   rw[if_neg (by omega)] at h
   exact Qb hM h (by rw[List.length_append];simp;omega)
theorem Ls {D:List UInt8}{M M' :Nat}(hM:M<=M'):∀{k a:Nat} {P:List UInt8} {q:Nat} {P' :List UInt8},oQ D M' k a P= .ok (q,P')->P.length<=M->(P'.length<=M/\oQ D M k a P= .ok (q,P'))\/(M<P'.length/\oQ D M k a P= .error 7)
 |0,a,P,q,P',h,hP=>by cases h;exact .inl ⟨hP,rfl⟩
 |k+1,a,P,q,P',h,hP=>by
  unfold oQ at h|-
  by_cases ca:a<D.length
  rotate_left
  ·rw[if_neg ca] at h;cases h
  rw[if_pos ca] at h|-
  by_cases c:M<=P.length
  ·rw[if_pos c]
   split at h
   ·cases h
   ·have:=yJ h
    rw[List.length_append] at this
    exact .inr ⟨by simp at this;omega,rfl⟩
  ·rw[if_neg c]
   rw[if_neg (by omega)] at h
   exact Ls hM h (by rw[List.length_append];simp;omega)
theorem Lt {D:List UInt8}{M M' p:Nat}(hM:M<=M'){P:List UInt8}{q:Nat}{P' :List UInt8}(h:gM D M' p P= .ok (q,P'))(hP:P.length<=M):(P'.length<=M/\gM D M p P= .ok (q,P'))\/(M<P'.length/\gM D M p P= .error 7):=by
 unfold gM at h|-
 split at h
 ·rename_i c1
  rw[if_pos c1]
  split at h
  ·rename_i c2
   rw[if_pos c2]
   exact Ls hM h hP
  ·cases h
 ·cases h
theorem Ss {D:List UInt8}{M M' :Nat}(hM:M<=M'){B:List Nat}{s p:Nat}{P:List UInt8}{q:Nat}{P' :List UInt8}(h:kn D M' B s p P= .ok (q,P'))(hP:P.length<=M):(P'.length<=M/\kn D M B s p P= .ok (q,P'))\/(M<P'.length/\kn D M B s p P= .error 7):=by
 unfold kn at h|-
 by_cases c1:285<s
 ·rw[if_pos c1] at h;cases h
 rw[if_neg c1] at h|-
 cases h1:di D p (nC s) with
 |error e=>rw[h1] at h;cases h
 |ok x=>
 rw[h1] at h
 dsimp only at h|-
 cases h2:sym D B (p+nC s) with
 |error e=>rw[h2] at h;cases h
 |ok c=>
 obtain⟨c,q2⟩:=c
 rw[h2] at h
 dsimp only at h|-
 by_cases c2:30<=c
 ·rw[if_pos c2] at h;cases h
 rw[if_neg c2] at h|-
 cases h3:di D q2 (vi c) with
 |error e=>rw[h3] at h;cases h
 |ok y=>
 rw[h3] at h
 dsimp only at h|-
 by_cases c3:P.length<nD c y
 ·rw[if_pos c3] at h;cases h
 rw[if_neg c3] at h|-
 cases h4:rep M' (nD c y) (lenOf s x) P with
 |error e=>rw[h4] at h;cases h
 |ok z=>
 rw[h4] at h
 cases h
 rcases Qb hM h4 hP with ⟨a,e⟩|⟨a,e⟩
 ·rw[e];exact .inl ⟨a,rfl⟩
 ·rw[e];exact .inr ⟨a,rfl⟩
theorem qH {D:List UInt8}{M M' :Nat}(hM:M<=M'){A B:List Nat}:∀{k p:Nat} {P:List UInt8} {q:Nat} {P' :List UInt8},fP D M' A B k p P= .ok (q,P')->P.length<=M->(P'.length<=M/\fP D M A B k p P= .ok (q,P'))\/(M<P'.length/\fP D M A B k p P= .error 7)
 |0,p,P,q,P',h,hP=>by cases h
 |k+1,p,P,q,P',h,hP=>by
  unfold fP at h|-
  cases h1:sym D A p with
  |error e=>rw[h1] at h;cases h
  |ok c=>
  obtain⟨s,r⟩:=c
  rw[h1] at h
  dsimp only at h|-
  by_cases c1:s=256
  ·rw[if_pos c1] at h|-
   cases h;exact .inl ⟨hP,rfl⟩
  rw[if_neg c1] at h|-
  by_cases c2:s<256
  ·rw[if_pos c2] at h|-
   by_cases c:M<=P.length
   ·rw[if_pos c]
    split at h
    ·cases h
    ·have:=lH h
     rw[List.length_append] at this
     exact .inr ⟨by simp at this;omega,rfl⟩
   ·rw[if_neg c]
    rw[if_neg (by omega)] at h
    exact qH hM h (by rw[List.length_append];simp;omega)
  rw[if_neg c2] at h|-
  cases h2:kn D M' B s r P with
  |error e=>rw[h2] at h;cases h
  |ok y=>
  obtain⟨r2,P2⟩:=y
  rw[h2] at h
  dsimp only at h
  rcases Ss hM h2 hP with ⟨a,e⟩|⟨a,e⟩
  ·rw[e];exact qH hM h a
  ·rw[e];exact .inr ⟨by have:=lH h;omega,rfl⟩
theorem Su {N:Nat}{D:List UInt8}{M M' kind p:Nat}(hM:M<=M'){P:List UInt8}{q:Nat}{P' :List UInt8}(h:gN N D M' kind p P= .ok (q,P'))(hP:P.length<=M):(P'.length<=M/\gN N D M kind p P= .ok (q,P'))\/(M<P'.length/\gN N D M kind p P= .error 7):=by
 unfold gN at h|-
 by_cases c0:kind=0
 ·rw[if_pos c0] at h|-;exact Lt hM h hP
 rw[if_neg c0] at h|-
 by_cases c1:kind=1
 ·rw[if_pos c1] at h|-;exact qH hM h hP
 rw[if_neg c1] at h|-
 by_cases c2:kind=2
 ·rw[if_pos c2] at h|-
  cases h1:KV N D p with
  |error e=>rw[h1] at h;cases h
  |ok y=>
  obtain⟨⟨a,b⟩,r⟩:=y
  rw[h1] at h
  exact qH hM h hP
 ·rw[if_neg c2] at h;cases h
theorem Oa {N:Nat}{D:List UInt8}{M M' p:Nat}(hM:M<=M'){P:List UInt8}{b q:Nat}{P' :List UInt8}(h:eH N D M' p P= .ok (b,q,P'))(hP:P.length<=M):(P'.length<=M/\eH N D M p P= .ok (b,q,P'))\/(M<P'.length/\eH N D M p P= .error 7):=by
 unfold eH at h|-
 cases h1:di D p 1 with
 |error e=>rw[h1] at h;cases h
 |ok last=>
 rw[h1] at h
 dsimp only at h|-
 cases h2:di D (p+1) 2 with
 |error e=>rw[h2] at h;cases h
 |ok kind=>
 rw[h2] at h
 dsimp only at h|-
 cases h3:gN N D M' kind (p+3) P with
 |error e=>rw[h3] at h;cases h
 |ok y=>
 obtain⟨r,P2⟩:=y
 rw[h3] at h
 cases h
 rcases Su hM h3 hP with ⟨a,e⟩|⟨a,e⟩
 ·rw[e];exact .inl ⟨a,rfl⟩
 ·rw[e];exact .inr ⟨a,rfl⟩
theorem z7 {N:Nat}{D:List UInt8}{M M' :Nat}(hM:M<=M'):∀{k p:Nat} {P:List UInt8} {q:Nat} {P' :List UInt8},fw N D M' k p P= .ok (q,P')->P.length<=M->(P'.length<=M/\fw N D M k p P= .ok (q,P'))\/(M<P'.length/\fw N D M k p P= .error 7)
 |0,p,P,q,P',h,hP=>by cases h
 |k+1,p,P,q,P',h,hP=>by
  unfold fw at h|-
  cases h1:eH N D M' p P with
  |error e=>rw[h1] at h;cases h
  |ok y=>
  obtain⟨b,r,P2⟩:=y
  rw[h1] at h
  dsimp only at h
  rcases Oa hM h1 hP with ⟨a,e⟩|⟨a,e⟩
  ·rw[e]
   dsimp only
   by_cases c:b=1
   ·rw[if_pos c] at h|-;cases h;exact .inl ⟨a,rfl⟩
   ·rw[if_neg c] at h|-;exact z7 hM h a
  ·rw[e]
   refine .inr ⟨?_,rfl⟩
   by_cases c:b=1
   ·rw[if_pos c] at h;cases h;exact a
   ·rw[if_neg c] at h;have:=xq h;omega
theorem Ob {N:Nat}{D:List UInt8}{M M' q:Nat}{P:List UInt8}(h:qW N D M' = .ok (q,P))(hP:M<P.length):qW N D M= .error 7:=by
 have hM:M<=M' :=by have:=(Dx h).2;omega
 rcases z7 hM h (Nat.zero_le _) with ⟨a,e⟩|⟨a,e⟩
 ·omega
 ·exact e
theorem G8 (N:Nat)(l:List UInt8)(hN:l.length+1<=N):∃q,(q+7)/8=(jd l).length/\∀(T:List UInt8) (M:Nat),l.length<=M->qW N (jd l++T) M= .ok (q,l):=by
 unfold jd
 split
 ·exact⟨8*(yf l).length,by omega,fun T M hM=>We N l T hM (by omega)⟩
 ·exact⟨(rk l).2,N1 l,fun T M hM=>N2 N l T hM hN⟩
theorem ID (l T:List UInt8):(xA l++T).drop 2=jd l++(be 4 (zD l)++T):=by
 unfold xA
 simp[List.append_assoc]
theorem ahc (l:List UInt8):(xA l).length=2+(jd l).length+4:=by
 unfold xA
 rw[List.length_append,List.length_append,pD]
 simp;omega
theorem aaz (l T:List UInt8):(xA l++T).getD 0 0=120/\(xA l++T).getD 1 0=1:=⟨rfl,rfl⟩
theorem aaA:¬Ld (120:UInt8).toNat (1:UInt8).toNat:=by decide
theorem Sv (N:Nat)(l T:List UInt8){M:Nat}(hM:l.length<=M)(hN:l.length+1<=N):qX N (xA l++T) M= .ok ((xA l).length,l):=by
 obtain⟨q,hq,hr⟩:=G8 N l hN
 have hl:=ahc l
 unfold qX
 rw[if_neg (by rw[List.length_append];omega),(aaz l T).1,(aaz l T).2,if_neg aaA,ID,hr _ M hM]
 dsimp only
 rw[hq,if_neg (by rw[List.length_append];omega)]
 have e:((xA l++T).drop (2+(jd l).length)).take 4=be 4 (zD l):=by
  rw[<-List.drop_drop,ID,List.drop_left,List.take_append_of_le_length (by rw[pD];exact Nat.le_refl _),List.take_of_length_le (by rw[pD];exact Nat.le_refl _)]
 have Tl:=Ug l
 rw[e,Uf (by exact Tl),if_pos rfl,hl]
theorem Sw (N:Nat)(l:List UInt8){M:Nat}(hM:M<l.length)(hN:l.length+1<=N):qX N (xA l) M= .error 7:=by
 obtain⟨q,hq,hr⟩:=G8 N l hN
 have hl:=ahc l
 have e:=ID l []
 rw[List.append_nil,List.append_nil] at e
 have h1:=hr (be 4 (zD l)) l.length (Nat.le_refl _)
 have hz:(xA l).getD 0 0=120/\(xA l).getD 1 0=1:=⟨rfl,rfl⟩
 unfold qX
 rw[if_neg (by omega),hz.1,hz.2,if_neg aaA,e,Ob h1 hM]
end Go.Cl.Nf
