import Derived.Test.YtdfjfncifneocaaGreatChK
open _root_ renaming reduceIte->ab,decide_eq_true->an,decide_eq_false->av,eq_false->a0,List->a3,if_neg->a5,if_pos->a9,eq_true->bg,decide_not->bl,Nat->cc,UInt8->cm,Int->cA,of_decide_eq_true->c4,and_self->dT,true_and->eA
open Go.Proofs.Tryz renaming prog->af,results31->bb,underlying31->b4,results12->b5,results14->cB,results22->cH,underlying23->ec,results44->ep
open List renaming drop_eq_getElem_cons->ao,take_succ_eq_append_getElem->a6,getElem_mem->bk,drop_length->b7,eq_nil_of_length_eq_zero->cd,length_map->cg,length_append->cx,append_assoc->c3,getElem?_eq_getElem->ds,length_drop->dt,replicate->dI,toList_toArray->dY,mem_singleton->ea,mem_map->ed,take_length->ee,length_cons->eg,length_take->eh,mem_append->ek,length_nil->en,drop_drop->eo,take_take->et,drop_zero->eu
open Int renaming toNat_natCast->a4,ofNat->eE
open Nat renaming reduceSub->a7,le_refl->a8,mul_le_mul_left->cv,reduceAdd->c7,sub_self->dx,add_zero->dE,add_one_sub_one->dU,ble->eb,mul_assoc->ev,pow_succ->ew,le_trans->ey,beq->eB
open Go renaming Value->bs
open Nat renaming reduceLT->QS,reduceEqDiff->Qx
set_option maxHeartbeats 8000000
set_option linter.unusedSimpArgs false
set_option linter.unusedVariables false
set_option maxRecDepth 100000
namespace Go.Cl
theorem Yh {P:Program}{s:aq}{t e:TypeId}{k1 k2:IntKind}{b8 z:cc}{zv:bs}(hu:P.underlying t=some (.slice e))(cf:aX P e=some z)(hz:bV P e=some zv)(hb:eY P e=some b8)(ph:bN zv=true)(oK:eB zv.cells.toList.length z=true){n:cc}(hn:b8*n<=4294967296)(g9:n<=4294967296):
  ef P s t (.int k1 n) (.int k2 n)=aZ s (bB zv.cells.toList n) n z:=by
 show(match P.underlying t,Value.int k1 (eE n),Value.int k2 (eE n) with
 |some (.slice e),.int _ (.ofNat l),.int _ (.ofNat c)=>
  match aX P e,bV P e,eY P e with
  |some n,some z,some oo=>
   if eb l c&&eb c 4294967296&&eb (oo*c) 4294967296&&bN z&&eB z.cells.toList.length n then aZ s (bB z.cells.toList l) l n else none
  |_,_,_=>none
 |_,_,_=>none)=_
 rw[hu]
 simp only[cf,hz,hb]
 have hc:(eb n n&&eb n 4294967296&&eb (b8*n) 4294967296&&bN zv&&eB zv.cells.toList.length z)=true:=by
  simp only[Bool.and_eq_true,Nat.ble_eq];exact⟨⟨⟨⟨a8 _,g9⟩,hn⟩,ph⟩,oK⟩
 rw[a9 hc]
theorem Yi:∀n,(bB de n).length=n*5
 |0=>by simp[bB]
 |n+1=>by simp only[bB,cx,Yi n];simp[de];omega
theorem aU.acV (F:cc->Prop)(s:aq):∀n,aU dy 5 F s (dI n O.none) (bB de n)
 |0=>aU.nil
 |n+1=>by
  have h:=(aU.acV F s n).snoc (show de.length=5 from rfl) (dy.none F s)
  have e:∀n,bB de n++de=de++bB de n:=by
   intro n
   induction n with
   |zero=>simp[bB]
   |succ n ih=>simp only[bB,c3,ih]
  rw[e] at h
  rw[List.replicate_succ']
  exact h
end Go.Cl
namespace Go.Cl.Ch
theorem o9 (q:O)(k:a3 cm)(hq:Small q):Small (fV q k):=by
 unfold fV
 split
 ·cases q with
  |mk kk n b L d=>
   cases hq with
   |mk hb hL hd hK F3 hD=>
    show Small (mS d k)
    unfold mS
    split
    ·rename_i e he;exact hD _ (List.mem_of_find?_eq_some he)
    ·exact Small.none
 ·exact Small.none
def fX (o:O):a3 O×a3 O×Bool:=
 if(fV o bh).kind=0 then([],[],true) else if(fV o bh).kind=5 then([fV o bh],[fV o cG],true)
 else if(fV o bh).kind=6 then(if(fV o cG).kind=0 then((fV o bh).items,dI (fV o bh).items.length O.none,true) else((fV o bh).items,(fV o cG).items,decide ((fV o cG).kind=6)&&decide ((fV o cG).items.length=(fV o bh).items.length)))
 else([],[],false)
theorem JT {o:O}(nM:Small o):(∀x∈(fX o).1,Small x)/\(∀x∈(fX o).2.1,Small x)/\((fX o).2.2=true->(fX o).1.length=(fX o).2.1.length)/\(fX o).1.length<=100000:=by
 have h1:=o9 o bh nM
 have h2:=o9 o cG nM
 unfold fX
 generalize fV o bh=f at h1|-
 generalize fV o cG=p at h2|-
 have i1:∀x∈f.items,Small x:=by cases h1 with|mk _ _ _ _ h=>exact h
 have i2:∀x∈p.items,Small x:=by cases h2 with|mk _ _ _ _ h=>exact h
 have i3:f.items.length<=100000:=by cases h1 with|mk _ h=>exact h
 split
 ·exact⟨by simp,by simp,fun _=>rfl,by simp⟩
 ·split
  ·exact⟨by simpa using h1,by simpa using h2,fun _=>rfl,by simp⟩
  ·split
   ·split
    ·exact⟨i1,fun x hx=>by rw[(List.mem_replicate.1 hx).2];exact Small.none,fun _=>by simp,i3⟩
    ·exact⟨i1,i2,fun h=>by simp at h;exact h.2.symm,i3⟩
   ·exact⟨by simp,by simp,fun _=>rfl,by simp⟩
end Go.Cl.Ch
namespace Go.Proofs.YtdfjfncifneocaaGreat
open Go.Cl Go.Cl.Pr Go.Cl.Ch
def acW (s:aq)(p:a3 O×a3 O×Bool)(v:bs)(s' :aq):Prop:=∃y z LC MC,v= .tuple #[y,z,.bool p.2.2]/\aN s' 5 y p.1.length LC/\aN s' 5 z p.2.1.length MC/\aU dy 5 (fun j=>s.next<=j) s' p.1 LC/\aU dy 5 (fun j=>s.next<=j) s' p.2.1 MC/\ar s.next s s'
theorem Ue (F:cc->Prop)(s:aq)(cs:a3 bs)(o:O)(ho:dy F s cs o)(nM:Small o):
  Runs af df 31 [.agg cs.toArray] s (acW s (fX o)):=by
 have jS:=ho.len
 obtain⟨QQ,fw⟩:∃QQ:bs->aq->Prop,QQ=acW s (fX o):=⟨_,rfl⟩
 rw[<-fw]
 refine Runs.enter 48 Tryz.func31 rfl rfl rfl rfl ?_
 intro f hn hf
 have h0:f.get 0= .agg cs.toArray:=hf 0
 clear hf
 have mh:de.length+1=6:=rfl
 have UO:=ec
 simp only[aj,QS,↓ab,hn,h0]
 refine aw ?_
 intro s1 eK bn iV
 have n1:=bn.next
 simp only[aj,QS,c7,↓ab,hn,jS]
 obtain⟨A,hA⟩:∃A:cc->Bool,A=fun j=>decide (j<s1.next):=⟨_,rfl⟩
 have iU:∀j,A j=true->j<s1.next:=by
  intro j h
  rw[hA] at h
  exact c4 h
 have hAn:∀j,s1.next<=j->A j=false:=fun j h=>by rw[hA];exact av (by omega)
 have hA1:A s.next=true:=by rw[hA];exact an eK.lt
 refine LB.cX.fi A iU 3 2 (by kernel_rfl) (by kernel_rfl) ?_
 have dC:=ar.spare s1 2
 have UD:(spare s1 2).next=s1.next+2:=bU _ _
 have lo1:∀k,LA.ej A (some (.pointer (some ⟨s.next,k,some 6⟩)))=true:=fun k=>LA.cr (A:=A) (i:=s.next) hA1
 have p1:∀t,ar (spare s1 2).next (spare s1 2) t->aJ af t 26 (.pointer (some ⟨s.next,0,some 6⟩))=some (.agg cs.toArray):=fun t h=>ax.gl ((eK.keeps dC).keeps h) jS
 have kC:ar s.next s (spare s1 2):=bn.trans (dC.weaken n1)
 simp only[aj,ak,bH,bI,dU,aa,QS,Qx,↓ab,hn,lo1,p1 _ (ar.refl _ _),ho.self]
 refine(EP F (spare s1 2) cs o (ho.keeps kC) nM bh).mono ?_
 rintro _ a ⟨ca,rfl,oa,ka⟩
 have ma:=ka.next
 refine⟨fun _=>LA.ar.yC iU (ka.weaken (by omega)),?_⟩
 simp only[aj,ak,bH,bI,dU,aa,QS,Qx,↓ab,hn,lo1,p1 _ ka,ho.self]
 refine(EP F a cs o (ho.keeps (kC.trans (ka.weaken (by omega)))) nM cG).mono ?_
 rintro _ b ⟨cb,rfl,ob,kb⟩
 have mb:=kb.next
 refine⟨fun _=>LA.ar.yC iU (kb.weaken (by omega)),?_⟩
 simp only[aj,↓ab,zO,wD]
 refine LB.kK (by omega) ?_
 intro c iK kY yP
 simp only[aj,bI,QS,↓ab,hn,zO,wD,mh]
 refine LB.kK (by omega) ?_
 intro d uR vC To
 simp only[aj,bI,QS,Qx,↓ab,hn,mh]
 refine LB.ct iL (by decide) (iK.aK vC To (by omega)) rfl rfl (by simpa using oa.len) oa.ok (fun _=>hAn _ (by omega)) ?_
 intro e he1 XV he3
 simp only[aj,bI,dx,QS,Qx,↓ab,hn]
 refine LB.ct iL (by decide) (uR.aK XV he3 (by omega)) rfl rfl (by simpa using ob.len) ob.ok (fun _=>hAn _ (by omega)) ?_
 intro g hg1 hg2 hg3
 have hg0:ax g s1.next ca:=he1.aK hg2 hg3 (by omega)
 have hg1:ax g (s1.next+1) cb:=hg1
 have kg:∀j,j≠s1.next->j≠s1.next+1->g.heap.get j=b.heap.get j:=fun j e1 e2=>by rw[hg3 j e2,he3 j e1,To j e2,yP j e1]
 have ng:g.next=b.next:=by omega
 have oa' :dy (fun j=>s.next<=j) g ca (fV o bh):=(((((oa.keeps kb).aK kY yP (by omega)).aK vC To (by omega)).aK XV he3 (by omega)).aK hg2 hg3 (by omega)).mono (fun j hj=>by omega)
 have Y7:dy (fun j=>s.next<=j) g cb (fV o cG):=((((ob.aK kY yP (by omega)).aK vC To (by omega)).aK XV he3 (by omega)).aK hg2 hg3 (by omega)).mono (fun j hj=>by omega)
 have QP:ar s.next s g:=((kC.trans (ka.weaken (by omega))).trans (kb.weaken (by omega))).trans ⟨by omega,fun j hj=>kg j (by omega) (by omega)⟩
 have hsF:=o9 o bh nM
 have hsP:=o9 o cG nM
 clear oa ob ka kb ma mb iK kY yP uR vC To he1 XV he3 hg2 hg3 kg
 obtain⟨fo,hfo⟩:∃q,q=fV o bh:=⟨_,rfl⟩
 obtain⟨po,hpo⟩:∃q,q=fV o cG:=⟨_,rfl⟩
 have PN:fX o=if fo.kind=0 then([],[],true) else if fo.kind=5 then([fo],[po],true) else if fo.kind=6 then(if po.kind=0 then(fo.items,dI fo.items.length O.none,true) else(fo.items,po.items,decide (po.kind=6)&&decide (po.items.length=fo.items.length))) else([],[],false):=by unfold fX;rw[<-hfo,<-hpo]
 rw[<-hfo] at oa' hsF
 rw[<-hpo] at Y7 hsP
 have la:=oa'.len
 have lb:=Y7.len
 obtain⟨q0,-⟩:=dy.H8 oa'
 obtain⟨r0,-⟩:=dy.H8 Y7
 have f0:aJ af g 3 (.pointer (some ⟨s1.next,0,some 6⟩))=some (.int .i64 fo.kind):=by
  have:=hg0.load (P:=af) bu (off:=0) (c:=6) (by omega) (by omega)
  rw[this,q0]
 have f1:aJ af g 3 (.pointer (some ⟨s1.next+1,0,some 6⟩))=some (.int .i64 po.kind):=by
  have:=hg1.load (P:=af) bu (off:=0) (c:=6) (by omega) (by omega)
  rw[this,r0]
 by_cases c0:fo.kind=0
 ·simp only[aj,al,oneOf,QS,Qx,↓ab,aj,bI,a7,oneOf,QS,Qx,↓ab,hn,F2,f0,bg c0,bb]
  rw[fw,PN,a9 c0]
  exact⟨_,_,[],[],rfl,.nil,.nil,aU.nil,aU.nil,QP⟩
 obtain⟨B,hB⟩:∃B:cc->Bool,B=fun j=>decide (j<g.next):=⟨_,rfl⟩
 have Ln:∀j,B j=true->j<g.next:=by
  intro j h
  rw[hB] at h
  exact c4 h
 have EZ:B s1.next=true:=by rw[hB];exact an hg0.lt
 have Y1:B (s1.next+1)=true:=by rw[hB];exact an hg1.lt
 have lw1:∀k,LA.ej B (some (.pointer (some ⟨s1.next,k,some 6⟩)))=true:=fun k=>LA.cr (A:=B) (i:=s1.next) EZ
 have lw2:∀k,LA.ej B (some (.pointer (some ⟨s1.next+1,k,some 6⟩)))=true:=fun k=>LA.cr (A:=B) (i:=s1.next+1) Y1
 by_cases c5:fo.kind=5
 ·simp only[aj,QS,Qx,↓ab,aj,bI,a7,QS,Qx,↓ab,hn,F2,f0,a0 c0,bg c5]
  refine LB.cX.fi B Ln 0 2 (by kernel_rfl) (by kernel_rfl) ?_
  have pk:=ar.spare g 2
  have Uy:(spare g 2).next=g.next+2:=bU _ _
  have oq:=oa'.keeps pk
  have bq:=Y7.keeps pk
  simp only[aj,bH,bI,ae,QS,Qx,↓ab,hn,lw1,ax.gl (hg0.keeps pk) la,oa'.self,gi (cs:=ca.toArray) UO iL zO wD rfl la (by decide)]
  refine LB.cZ (base:=g.next) la (by omega) (a8 _) ?_
  intro u b2 hu gz kb nb ob2
  have hsu:ar g.next g b2:=pk.trans kb
  simp only[aj,bH,bI,ae,QS,Qx,↓ab,hn,lw2,ax.gl (hg1.keeps hsu) lb,Y7.self,gi (cs:=cb.toArray) UO iL zO wD rfl lb (by decide)]
  refine LB.cZ (base:=g.next) lb (by omega) (by omega) ?_
  intro w b3 hw hiw kc nc oc
  have Nk:ar g.next g b3:=hsu.trans kc
  have Ef:Own b3 5 u 1 ca:=hu.aK nc oc (by rw[gz];intro e;injection e with e;omega)
  simp only[aj,al,oneOf,QS,Qx,↓ab,aj,bH,bI,oneOf,QS,Qx,↓ab,hn,hu.self,hw.self,bb]
  rw[fw,PN,a5 c0,a9 c5]
  exact⟨u,w,ca,cb,rfl,Ef.aG,hw.aG,by simpa using aU.nil.snoc la (oa'.keeps Nk),by simpa using aU.nil.snoc lb (Y7.keeps Nk),QP.trans (Nk.weaken QP.next)⟩
 by_cases c6:fo.kind=6
 rotate_left
 ·simp only[aj,al,oneOf,QS,Qx,↓ab,aj,bI,a7,oneOf,QS,Qx,↓ab,hn,F2,f0,a0 c0,a0 c5,a0 c6,bb]
  rw[fw,PN,a5 c0,a5 c5,a5 c6]
  exact⟨_,_,[],[],rfl,.nil,.nil,aU.nil,aU.nil,QP⟩
 obtain⟨y,LC,hy,hY,hyR⟩:∃y LC,ca.getD 3 undef=y/\aN g 5 y fo.items.length LC/\aU dy 5 (fun j=>s.next<=j) g fo.items LC:=by
  cases fo with
  |mk k m b l d=>obtain⟨bv,lv,dv,lc,dc,rfl,h1,h2,h3,h4,h5,h6,h7,h8⟩:=oa'.parts;exact⟨lv,lc,rfl,h2,h7⟩
 obtain⟨z,MC,hz,hZ,hzR⟩:∃y LC,cb.getD 3 undef=y/\aN g 5 y po.items.length LC/\aU dy 5 (fun j=>s.next<=j) g po.items LC:=by
  cases po with
  |mk k m b l d=>obtain⟨bv,lv,dv,lc,dc,rfl,h1,h2,h3,h4,h5,h6,h7,h8⟩:=Y7.parts;exact⟨lv,lc,rfl,h2,h7⟩
 have f3:∀t,ar g.next g t->aJ af t 23 (.pointer (some ⟨s1.next,3,some 6⟩))=some y:=fun t h=>by
  have:=(hg0.keeps h).load (P:=af) Ww (off:=3) (c:=6) (by omega) (by omega)
  rw[this,hy]
 have p3:∀t,ar g.next g t->aJ af t 23 (.pointer (some ⟨s1.next+1,3,some 6⟩))=some z:=fun t h=>by
  have:=(hg1.keeps h).load (P:=af) Ww (off:=3) (c:=6) (by omega) (by omega)
  rw[this,hz]
 have J8:fo.items.length<=100000:=by cases hsF with|mk hb hl=>exact hl
 by_cases p0:po.kind=0
 ·simp only[aj,QS,Qx,↓ab,aj,bI,a7,QS,Qx,↓ab,hn,F2,f0,f1,a0 c0,a0 c5,bg c6,bg p0]
  refine LB.cX.fi B Ln 0 1 (by kernel_rfl) (by kernel_rfl) ?_
  have pk:=ar.spare g 1
  have Uy:(spare g 1).next=g.next+1:=bU _ _
  have hmk:∀t:aq,ef af t 23 (.int .i64 (fo.items.length:cc)) (.int .i64 (fo.items.length:cc))=aZ t (bB de fo.items.length) fo.items.length 5:=fun t=>Yh UO iL zO byO wD rfl (by omega) (by omega)
  simp only[aj,bH,bI,aa,QS,Qx,↓ab,hn,lw1,of3,f3 _ pk,hY.self,(hY.keeps pk).bm UO,LA.Ha hY,hmk]
  refine LB.cZ (base:=g.next) (n:=fo.items.length) (z:=5) (Yi _) (by omega) (a8 _) ?_
  intro u b2 hu gz kb nb ob2
  have hsu:ar g.next g b2:=pk.trans kb
  simp only[aj,al,oneOf,QS,Qx,↓ab,aj,bH,bI,oneOf,QS,Qx,↓ab,hn,hu.self,hY.self,bb]
  rw[fw,PN,a5 c0,a5 c5,a9 c6,a9 p0]
  exact⟨y,u,LC,_,rfl,hY.keeps hsu,by rw[List.length_replicate];exact hu.aG,hyR.keeps cK hsu,aU.acV _ _ _,QP.trans (hsu.weaken QP.next)⟩
 ·by_cases p6:po.kind=6
  ·simp only[aj,ak,al,oneOf,aa,QS,Qx,↓ab,aj,ak,bI,a7,oneOf,aa,QS,Qx,↓ab,undef,hn,F2,of3,f0,f1,f3 _ (ar.refl _ _),p3 _ (ar.refl _ _),hY.self,hZ.self,hY.bm UO,hZ.bm UO,a0 c0,a0 c5,bg c6,a0 p0,bg p6,bb]
   rw[fw,PN,a5 c0,a5 c5,a9 c6,a5 p0,an p6]
   exact⟨y,z,LC,MC,by simp,hY,hZ,hyR,hzR,QP⟩
  ·simp only[aj,ak,al,oneOf,QS,Qx,↓ab,aj,ak,bI,a7,oneOf,QS,Qx,↓ab,undef,hn,F2,of3,f0,f1,f3 _ (ar.refl _ _),p3 _ (ar.refl _ _),hY.self,hZ.self,a0 c0,a0 c5,bg c6,a0 p0,a0 p6,bb]
   rw[fw,PN,a5 c0,a5 c5,a9 c6,a5 p0,av p6]
   exact⟨y,z,LC,MC,rfl,hY,hZ,hyR,hzR,QP⟩
end Go.Proofs.YtdfjfncifneocaaGreat
namespace Go.Cl.Ch
def mL:a3 O->a3 O->Option (a3 Lk)
 |n::N,p::P=>if(o8 n p).2=true then(mL N P).map ((o8 n p).1::·) else none
 |_,_=>some []
def gU (o:O):a3 Lk×cA:=
 if o.kind≠8 then([],1) else if(fX o).2.2=false\/8<(fX o).1.length then([],4)
 else match mL (fX o).1 (fX o).2.1 with
  |none=>([],4)
  |some L=>(L,0)
end Go.Cl.Ch
namespace Go.Proofs.YtdfjfncifneocaaGreat
open Go.Cl Go.Cl.Pr Go.Cl.Ch
def acZ (s:aq)(p:a3 Lk×cA)(v:bs)(s' :aq):Prop:=∃y,v= .tuple #[y,.int .i64 p.2]/\Own s' 5 y p.1.length (ki p.1)/\aF s.next y/\ar s.next s s'
theorem MZ (F:cc->Prop)(s:aq)(cs:a3 bs)(o:O)(ho:dy F s cs o)(nM:Small o):
  Runs af df 12 [.agg cs.toArray] s (acZ s (gU o)):=by
 have jS:=ho.len
 obtain⟨QQ,fw⟩:∃QQ:bs->aq->Prop,QQ=acZ s (gU o):=⟨_,rfl⟩
 rw[<-fw]
 refine Runs.enter 52 Tryz.func12 rfl rfl rfl rfl ?_
 intro f hn hf
 have h0:f.get 0= .agg cs.toArray:=hf 0
 clear hf
 have UO:=ec
 have UK:=b4
 simp only[aj,QS,↓ab,hn,h0]
 refine aw ?_
 intro s1 eK bn iV
 have n1:=bn.next
 obtain⟨q0,-⟩:=dy.H8 ho
 have l0:aJ af s1 3 (.pointer (some ⟨s.next,0,some 6⟩))=some (.int .i64 o.kind):=by
  have:=eK.load (P:=af) bu (off:=0) (c:=6) (by omega) (by omega)
  rw[this,q0]
 by_cases c8:o.kind=8
 rotate_left
 ·simp only[aj,ak,al,oneOf,QS,Qx,c7,↓ab,hn,jS,F2,l0,bl,av c8,b5]
  have e:gU o=([],1):=by unfold gU;rw[a9 c8]
  rw[fw,e]
  exact⟨_,rfl,.nil,aF.nil _,bn⟩
 simp only[aj,ak,aa,QS,Qx,c7,↓ab,hn,jS,F2,l0,bl,an c8,ax.gl eK jS]
 refine(Ue F s1 cs o (ho.keeps bn) nM).mono ?_
 obtain⟨R,hR⟩:∃R,R=fX o:=⟨_,rfl⟩
 have PN:gU o=if R.2.2=false\/8<R.1.length then(([],4):a3 Lk×cA) else match mL R.1 R.2.1 with
  |none=>([],4)
  |some L=>(L,0):=by unfold gU;rw[a5 (fun h=>h c8),<-hR]
 have T3:(∀x∈R.1,Small x)/\(∀x∈R.2.1,Small x)/\(R.2.2=true->R.1.length=R.2.1.length)/\R.1.length<=100000:=by rw[hR];exact JT nM
 rw[<-hR]
 rintro _ s2 ⟨y,z,LC,MC,rfl,hY,hZ,hyR,hzR,k2⟩
 obtain⟨N,M,t⟩:=R
 dsimp only at hY hZ hyR hzR PN T3|-
 obtain⟨kC,cR,fB,vh⟩:=T3
 have n2:=k2.next
 have x0:ba (.tuple #[y,z,.bool t]) 0=some y:=rfl
 have x1:ba (.tuple #[y,z,.bool t]) 1=some z:=rfl
 have x2:ba (.tuple #[y,z,.bool t]) 2=some (.bool t):=rfl
 have aR:ar s.next s s2:=bn.trans (k2.weaken n1)
 cases t with
 |false=>
  simp only[aj,ak,al,oneOf,QS,Qx,↓ab,undef,hn,x0,x1,x2,b5]
  rw[fw,PN,a9 (.inl rfl)]
  exact⟨_,rfl,.nil,aF.nil _,aR⟩
 |true=>
 by_cases c9:8<N.length
 ·have d9:((N.length:cc):cA)>8:=by omega
  simp only[aj,ak,al,oneOf,aa,QS,Qx,↓ab,hn,x0,x1,x2,hY.bm UO,bg d9,b5]
  rw[fw,PN,a9 (.inr c9)]
  exact⟨_,rfl,.nil,aF.nil _,aR⟩
 have d9:¬((N.length:cc):cA)>8:=by omega
 rw[a5 (show¬(true=false\/8<N.length) from fun h=>h.elim (fun h=>by cases h) c9)] at PN
 have hlm:N.length=M.length:=fB rfl
 have MX:bV af 58=some (fE ⟨0,0,0,[],0⟩):=by kernel_rfl
 have yp:bN (fE ⟨0,0,0,[],0⟩)=true:=by kernel_rfl
 have Yj:eY af 58=some 48:=by kernel_rfl
 have hl6:(⟨0,0,0,[],0⟩:Lk).cells.length+1=6:=rfl
 simp only[aj,ak,aa,QS,Qx,↓ab,hn,x0,x1,x2,hY.bm UO,a0 d9]
 refine Comes.bQ (fun q f t=>∃(i:cc) (v:bs) (L:a3 Lk),q=N.length-i/\i<=N.length/\L.length=i/\mL N M=(mL (N.drop i) (M.drop i)).map (L++·)/\Own t 5 v i (ki L)/\aF s2.next v/\ar s2.next s2 t/\f.n=52/\f.get 4=y/\f.get 5=z/\f.get 7=v/\f.get 28= .int .i64 (N.length:cc)/\f.get 29= .int .i64 (i:cc))
  (fun q f t=>(q= .ret/\mL N M=none/\ar s2.next s2 t/\f.n=52/\f.get 2= .slice none 0 0/\f.get 3= .int .i64 4)\/(q= .exit 0/\∃v L,mL N M=some L/\L.length=N.length/\Own t 5 v N.length (ki L)/\aF s2.next v/\ar s2.next s2 t/\f.n=52/\f.get 7=v))
  ⟨0,.slice none 0 0,[],rfl,by omega,rfl,by simp,.nil,aF.nil _,ar.refl _ _,by simp only[ad,ag,↓ab,Qx,hn,eA];rfl⟩ ?_ ?_
 ·clear hn h0 f
  rintro Q hQ q f t ⟨i,v,L,rfl,hi,hLi,hM,hv,J9,aE,hn,h4,h5,h7,Y8,h29⟩
  have nt:=aE.next
  by_cases bd:i<N.length
  rotate_left
  ·obtain rfl:i=N.length:=by omega
   have d1:¬((N.length:cc):cA)<((N.length:cc):cA):=by omega
   rw[b7] at hM
   simp only[aj,QS,↓ab,hn,Y8,h29,a0 d1]
   exact hQ _ _ _ (.inr ⟨rfl,v,L,by rw[hM];simp[mL],hLi,hv,J9,aE,by simp only[ad,ag,↓ab,Qx,hn,h7,dT]⟩)
  have d1:(i:cA)<(N.length:cA):=by omega
  have yM:i<M.length:=by omega
  have hYt:=hY.keeps aE
  have hZt:=hZ.keeps aE
  have gB:=hYt.indexAddr (P:=af) (k:= .i64) (x:=(i:cA)) UO iL (by omega) (by omega)
  have hiz:=hZt.indexAddr (P:=af) (k:= .i64) (x:=(i:cA)) UO iL (by omega) (by omega)
  rw[a4] at gB hiz
  have hon:=(hyR.keeps cK aE).row i bd
  have fY:=(hzR.keeps cK aE).row i yM
  have hdN:N.drop i=N[i]::N.drop (i+1):=ao bd
  have hdM:M.drop i=M[i]::M.drop (i+1):=ao yM
  rw[hdN,hdM] at hM
  simp only[mL] at hM
  have I0:=kC _ (bk bd)
  have dC:=cR _ (bk yM)
  generalize N[i]=no at hM hon I0
  generalize M[i]=po at hM fY dC
  simp only[aj,QS,Qx,↓ab,hn,Y8,h29,bg d1]
  obtain⟨B,hB⟩:∃B:cc->Bool,B=fun j=>decide (j<t.next):=⟨_,rfl⟩
  have Ln:∀j,B j=true->j<t.next:=by
   intro j h
   rw[hB] at h
   exact c4 h
  have hBo:∀j,j<t.next->B j=true:=fun j h=>by rw[hB];exact an h
  refine LB.cX.fi B Ln 1 1 (by kernel_rfl) (by kernel_rfl) ?_
  have pk:=ar.spare t 1
  have Uy:(spare t 1).next=t.next+1:=bU _ _
  have fz:=(hYt.keeps pk).fJ (P:=af) Hv iL bd
  have hlz:=(hZt.keeps pk).fJ (P:=af) Hv iL yM
  generalize (LC.drop (i*5)).take 5=cn at fz hon
  generalize (MC.drop (i*5)).take 5=cp at hlz fY
  simp only[aj,ak,bH,bI,dx,aa,QS,Qx,↓ab,hn,h4,h5,hYt.self,hZt.self,gB,hiz,fz,hlz,LA.m9 hYt hBo bd,LA.m9 hZt hBo yM,hon.self,fY.self]
  refine(Yb _ _ (spare t 1) cn cp no po (hon.keeps pk) (fY.keeps pk) dC).mono ?_
  rintro _ t2 ⟨rfl,k3⟩
  have n3:=k3.next
  refine⟨fun _=>LA.ar.yC Ln (k3.weaken (by omega)),?_⟩
  obtain⟨R,hR⟩:∃R,R=o8 no po:=⟨_,rfl⟩
  rw[<-hR] at hM|-
  obtain⟨l,b⟩:=R
  have y0:ba (.tuple #[fE l,.bool b]) 0=some (fE l):=rfl
  have y1:ba (.tuple #[fE l,.bool b]) 1=some (.bool b):=rfl
  have gY:bZ (fE l) (fE l)=true:=by simp[bZ,fp,cN,Lk.cells]
  have ajG:bZ (.tuple #[fE l,.bool b]) (.tuple #[fE l,.bool b])=true:=by simp[bZ,qI,yH,fp,cN,Lk.cells]
  simp only[aj,bH,bI,QS,Qx,↓ab,hn,y0,y1,gY,ajG,MX,yp]
  refine LB.kK (by omega) ?_
  intro t3 iK kY yP
  have iK:ax t3 t.next (⟨0,0,0,[],0⟩:Lk).cells:=iK
  simp only[aj,bI,QS,Qx,↓ab,hn,hl6]
  refine LB.ct dp (by decide) iK rfl rfl rfl rfl (fun h=>absurd rfl h) ?_
  intro t4 uR vC To
  have uR:ax t4 t.next l.cells:=uR
  have k4:ar t.next t t4:=(pk.trans (k3.weaken (by omega))).trans ⟨by omega,fun j hj=>by rw[To j (by omega),yP j (by omega)]⟩
  have m4:=k4.next
  have hv4:=hv.keeps k4
  have dX:=aE.trans (k4.weaken nt)
  cases b with
  |false=>
   dsimp only at hM
   rw[a5 (by decide)] at hM
   simp only[aj,QS,Qx,↓ab,aj,bH,bI,a7,QS,Qx,↓ab,hn]
   exact hQ _ _ _ (.inl ⟨rfl,by rw[hM];rfl,dX,by simp only[ad,ag,↓ab,Qx,hn,dT]⟩)
  |true=>
  dsimp only at hM
  rw[a9 rfl] at hM
  have la2:aJ af t4 58 (.pointer (some ⟨t.next,0,some 6⟩))=some (fE l):=ax.bF (P:=af) (cs:=l.cells) mi dp uR (c:=6) rfl
  simp only[aj,ae,QS,Qx,↓ab,aj,bH,bI,a7,ae,QS,Qx,↓ab,hn,h7,la2,gi (cs:=l.cells.toArray) UK dp MX yp rfl rfl (by decide)]
  refine aQ (by rfl) ?_
  intro w t5 hw yD k5
  have m5:=k5.next
  simp only[aj,aa,QS,Qx,↓ab,hn]
  refine bY UK UK (.inl ⟨_,rfl⟩) dp Yj MX rfl (hv4.keeps k5) hw.aG.src rfl (by decide) rfl (by omega) (by omega) J9 (by omega) ?_
  intro v' t6 hv' aoz k6 _ _
  simp(disch:=omega)only[aj,QS,Qx,↓ab,hn,h29,aD]
  refine ay (N.length-(i+1)) (by omega) ⟨i+1,v',L++[l],rfl,by omega,by simp[hLi],?_,by rw[vZ];simpa [ki] using hv',aoz,(dX.trans (k5.weaken (by omega))).trans k6,by simp only[ag,hn],by simp only[ad,↓ab,Qx,h4],by simp only[ad,↓ab,Qx,h5],by simp only[ad,↓ab,Qx],by simp only[ad,↓ab,Qx,Y8],by simp only[ad,↓ab];rfl⟩
  rw[hM,Option.map_map]
  congr 1
  funext x
  simp
 clear hn h0 f
 rintro _ f u (⟨rfl,hM,hu,hn,h2,h3⟩|⟨rfl,v,L,hM,hLl,hv,J9,hu,hn,h7⟩)
 ·rw[hM] at PN
  simp only[aj,al,oneOf,QS,↓ab,hn,h2,h3,b5]
  rw[fw,PN]
  exact⟨_,rfl,.nil,aF.nil _,aR.trans (hu.weaken aR.next)⟩
 ·rw[hM] at PN
  simp only[aj,al,oneOf,QS,Qx,↓ab,hn,h7,b5]
  rw[fw,PN]
  exact⟨v,rfl,by rw[<-hLl] at hv;exact hv,fun j hj=>by have:=J9 j hj;have:=aR.next;omega,aR.trans (hu.weaken aR.next)⟩
def om:a3 Lk->a3 cm->cA->a3 cm×cA
 |[],b,_=>(b,0)
 |l::r,b,m=>if(fM l b m).2≠0 then([],(fM l b m).2) else om r (fM l b m).1 m
def PO (o:O)(m:cA):a3 cm×cA:=
 if(gU o).2≠0 then([],(gU o).2) else if¬∀l∈(gU o).1,l.name∈v8 then([],11) else om (gU o).1 o.bytes m
end Go.Proofs.YtdfjfncifneocaaGreat
namespace Go.Proofs.YtdfjfncifneocaaGreat
open Go.Cl Go.Cl.Pr Go.Cl.Ch Go.Cl.Hx Go.Cl.B85 Go.Cl.Uh
def Ia:a3 Lk->a3 cm->cA->Prop
 |[],_,_=>True
 |l::r,b,m=>b.length<=4000000/\NoD l b m/\((fM l b m).2=0->Ia r (fM l b m).1 m)
theorem M0 (F:cc->Prop)(s:aq)(cs:a3 bs)(o:O)(ho:dy F s cs o)(nM:Small o)(m:cA)(hm:m<=20000000)(hL:(gU o).1.length<=1000)(ln:Ia (gU o).1 o.bytes m):
  Runs af df 14 [.agg cs.toArray,.int .i64 m] s (vg s (PO o m)):=by
 have jS:=ho.len
 obtain⟨QQ,fw⟩:∃QQ:bs->aq->Prop,QQ=vg s (PO o m):=⟨_,rfl⟩
 rw[<-fw]
 refine Runs.enter 52 Tryz.func14 rfl rfl rfl rfl ?_
 intro f hn hf
 have h0:f.get 0= .agg cs.toArray:=hf 0
 have h1:f.get 1= .int .i64 m:=hf 1
 clear hf
 have UK:=b4
 have MX:bV af 58=some (fE ⟨0,0,0,[],0⟩):=by kernel_rfl
 have yp:bN (fE ⟨0,0,0,[],0⟩)=true:=by kernel_rfl
 have hl6:(⟨0,0,0,[],0⟩:Lk).cells.length+1=6:=rfl
 simp only[aj,QS,↓ab,hn,h0]
 refine aw ?_
 intro s1 eK bn iV
 have n1:=bn.next
 simp only[aj,ak,aa,QS,Qx,c7,↓ab,hn,jS,ax.gl eK jS]
 refine(MZ F s1 cs o (ho.keeps bn) nM).mono ?_
 obtain⟨R,hR⟩:∃R,R=gU o:=⟨_,rfl⟩
 have hD:PO o m=if R.2≠0 then([],R.2) else if¬∀l∈R.1,l.name∈v8 then([],11) else om R.1 o.bytes m:=by unfold PO;rw[<-hR]
 rw[<-hR] at ln hL|-
 obtain⟨L,e⟩:=R
 dsimp only at hD ln hL
 rintro _ s2 ⟨y,rfl,hy,kN,k2⟩
 dsimp only at hy|-
 have n2:=k2.next
 have aR:ar s.next s s2:=bn.trans (k2.weaken n1)
 have x0:ba (.tuple #[y,.int .i64 e]) 0=some y:=rfl
 have x1:ba (.tuple #[y,.int .i64 e]) 1=some (.int .i64 e):=rfl
 by_cases c0:e=0
 rotate_left
 ·simp only[aj,ak,al,oneOf,QS,Qx,↓ab,hn,x0,x1,bl,av c0,cB]
  rw[fw,hD,a9 c0]
  exact⟨_,rfl,⟨.nil,aF.nil _,aR⟩⟩
 rw[a5 (fun h=>h c0)] at hD
 simp only[aj,ak,aa,QS,Qx,↓ab,hn,x0,x1,bl,an c0,hy.aG.bm UK]
 refine Comes.bQ (fun q f t=>∃i:cc,q=L.length-i/\i<=L.length/\(∀l∈L.take i,l.name∈v8)/\ar s2.next s2 t/\f.n=52/\f.get 1= .int .i64 m/\f.get 2= .pointer (some ⟨s.next,0,some 6⟩)/\f.get 6=y/\f.get 21=y/\f.get 22= .int .i64 (L.length:cc)/\f.get 23= .int .i64 (i:cc))
  (fun q f t=>(q= .ret/\(¬∀l∈L,l.name∈v8)/\ar s2.next s2 t/\f.n=52/\f.get 4= .slice none 0 0/\f.get 5= .int .i64 11)\/(q= .exit 0/\(∀l∈L,l.name∈v8)/\ar s2.next s2 t/\f.n=52/\f.get 1= .int .i64 m/\f.get 2= .pointer (some ⟨s.next,0,some 6⟩)/\f.get 6=y))
  ⟨0,rfl,by omega,by simp,ar.refl _ _,by simp only[ad,ag,↓ab,Qx,hn,h1,eA];rfl⟩ ?_ ?_
 ·clear hn h0 h1 f
  rintro Q hQ q f t ⟨i,rfl,hi,eC,aE,hn,h1,h2,h6,h21,h22,Y5⟩
  have nt:=aE.next
  by_cases bd:i<L.length
  rotate_left
  ·obtain rfl:i=L.length:=by omega
   have d1:¬((L.length:cc):cA)<((L.length:cc):cA):=by omega
   rw[ee] at eC
   simp only[aj,QS,↓ab,hn,h22,Y5,a0 d1]
   exact hQ _ _ _ (.inr ⟨rfl,eC,aE,by simp only[ad,ag,↓ab,Qx,hn,h1,h2,h6,dT]⟩)
  have d1:(i:cA)<(L.length:cA):=by omega
  have SK:=hy.keeps aE
  have gB:=SK.aG.indexAddr (P:=af) (k:= .i64) (x:=(i:cA)) UK dp (by omega) (by omega)
  rw[a4] at gB
  have fz:=SK.aG.fJ (P:=af) mi dp bd
  rw[tH bd] at fz
  obtain⟨l,hl⟩:∃l,l=L[i]:=⟨_,rfl⟩
  rw[<-hl] at fz
  simp only[aj,QS,Qx,↓ab,hn,h21,h22,Y5,bg d1,gB,fz,MX,yp]
  refine aw ?_
  intro s7 uD jX rp
  simp only[aj,QS,Qx,↓ab,hn,hl6]
  refine aB dp (by decide) uD rfl rfl rfl rfl ?_
  intro s8 vd SM WQ
  have vd:ax s8 t.next l.cells:=vd
  have n7:=jX.next
  have k8:ar t.next t s8:=jX.trans ⟨by omega,fun j hj=>WQ j (by omega)⟩
  have la:aJ af s8 58 (.pointer (some ⟨t.next,0,some 6⟩))=some (fE l):=ax.bF (P:=af) (cs:=l.cells) mi dp vd (c:=6) rfl
  simp only[aj,ak,aa,QS,↓ab,hn,la]
  refine(HB s8 l).mono ?_
  rintro _ s9 ⟨rfl,k9⟩
  have rq:ar s2.next s2 s9:=(aE.trans (k8.weaken nt)).trans (k9.weaken (by have:=k8.next;omega))
  by_cases c1:l.name∈v8
  rotate_left
  ·rw[av c1]
   simp only[aj,QS,↓ab,hn]
   exact hQ _ _ _ (.inl ⟨rfl,fun h=>c1 (h l (by rw[hl];exact bk bd)),rq,by simp only[ad,ag,↓ab,Qx,hn,dT]⟩)
  rw[an c1]
  simp(disch:=omega)only[aj,QS,Qx,↓ab,hn,Y5,aD]
  refine ay (L.length-(i+1)) (by omega) ⟨i+1,rfl,by omega,fun a ha=> ?_,rq,by simp only[ag,hn],by simp only[ad,↓ab,Qx,h1],by simp only[ad,↓ab,Qx,h2],by simp only[ad,↓ab,Qx,h6],by simp only[ad,↓ab,Qx,h21],by simp only[ad,↓ab,Qx,h22],by simp only[ad,↓ab];rfl⟩
  rw[a6 bd,<-hl] at ha
  rcases ek.1 ha with ha|ha
  ·exact eC a ha
  ·rw[ea.1 ha];exact c1
 clear hn h0 h1 f
 rintro _ f t (⟨rfl,kF,aE,hn,h4,h5⟩|⟨rfl,eC,aE,hn,h1,h2,h6⟩)
 ·simp only[aj,al,oneOf,QS,↓ab,hn,h4,h5,cB]
  rw[fw,hD,a9 kF]
  exact⟨_,rfl,⟨.nil,aF.nil _,aR.trans (aE.weaken aR.next)⟩⟩
 rw[a5 (fun h=>h eC)] at hD
 have nt:=aE.next
 have bC:ar s.next s t:=aR.trans (aE.weaken aR.next)
 obtain⟨bv,zq,oA,oH⟩:∃bv,cs.getD 2 undef=bv/\aN s 1 bv o.bytes.length (ofBytes o.bytes)/\o.bytes.length<=100000000:=by
  cases o with
  |mk k n b l d=>obtain⟨bv,lv,dv,lc,dc,rfl,h1,-⟩:=ho.parts;exact⟨bv,rfl,h1,by cases nM with|mk hb=>exact hb⟩
 have aoA:=(eK.keeps k2).keeps aE
 have l2:aJ af t 22 (.pointer (some ⟨s.next,2,some 6⟩))=some bv:=by
  have:=aoA.load (P:=af) fU (off:=2) (c:=6) (by omega) (by omega)
  rw[this,zq]
 simp only[aj,ak,aa,QS,↓ab,hn,h2,of2,l2]
 refine(wu (lib:=df) rfl t bv o.bytes (oA.keeps bC) (by omega)).mono ?_
 intro v0 t0 hv0
 have k0:=hv0.stay
 have SK:=hy.keeps (aE.trans (k0.weaken nt))
 obtain⟨b0,sG⟩:∃b,b=o.bytes:=⟨_,rfl⟩
 rw[<-sG] at hv0 hD ln
 have nt0:=k0.next
 have dX:ar s.next s t0:=bC.trans (k0.weaken bC.next)
 simp only[aj,aa,QS,Qx,↓ab,hn,h6,SK.aG.bm UK]
 refine Comes.bQ (fun q f u=>∃(i:cc) (v:bs) (c:a3 cm) (z:cA),q=L.length-i/\i<=L.length/\om L b0 m=om (L.drop i) c m/\Ia (L.drop i) c m/\Own u 1 v c.length (ofBytes c)/\aF s.next v/\ar t0.next t0 u/\f.n=52/\f.get 1= .int .i64 m/\f.get 10=v/\f.get 34=y/\f.get 35= .int .i64 (L.length:cc)/\f.get 36= .int .i64 (i:cc))
  (fun q f u=>(q= .ret/\∃z:cA,om L b0 m=([],z)/\ar t0.next t0 u/\f.n=52/\f.get 4= .slice none 0 0/\f.get 5= .int .i64 z)\/(q= .exit 2/\∃v c,om L b0 m=(c,0)/\Own u 1 v c.length (ofBytes c)/\aF s.next v/\ar t0.next t0 u/\f.n=52/\f.get 10=v))
  ⟨0,v0,b0,0,rfl,by omega,rfl,ln,hv0.own,fun j hj=>by have:=hv0.fresh j hj;have:=bC.next;omega,ar.refl _ _,by simp only[ad,ag,↓ab,Qx,hn,h1,eA];rfl⟩ ?_ ?_
 ·clear hn h1 h2 h6 f
  rintro Q hQ q f u ⟨i,v,c,_,rfl,hi,hU,hF,hv,J9,aE,hn,h1,eX,wG,h35,h36⟩
  have nu:=aE.next
  by_cases bd:i<L.length
  rotate_left
  ·obtain rfl:i=L.length:=by omega
   have d1:¬((L.length:cc):cA)<((L.length:cc):cA):=by omega
   rw[b7] at hU
   simp only[aj,QS,↓ab,hn,h35,h36,a0 d1]
   exact hQ _ _ _ (.inr ⟨rfl,v,c,hU,hv,J9,aE,by simp only[ad,ag,↓ab,Qx,hn,eX,dT]⟩)
  have d1:(i:cA)<(L.length:cA):=by omega
  have SK:=SK.keeps aE
  have gB:=SK.aG.indexAddr (P:=af) (k:= .i64) (x:=(i:cA)) UK dp (by omega) (by omega)
  rw[a4] at gB
  have fz:=SK.aG.fJ (P:=af) mi dp bd
  rw[tH bd] at fz
  obtain⟨l,hl⟩:∃l,l=L[i]:=⟨_,rfl⟩
  have FP:L.drop i=l::L.drop (i+1):=by rw[ao bd,hl]
  rw[<-hl] at fz
  rw[FP] at hU hF
  obtain⟨hc,J8,Zk⟩:=hF
  simp only[aj,QS,Qx,↓ab,hn,wG,h35,h36,bg d1,gB,fz,MX,yp]
  refine aw ?_
  intro s7 uD jX rp
  simp only[aj,QS,Qx,↓ab,hn,hl6]
  refine aB dp (by decide) uD rfl rfl rfl rfl ?_
  intro s8 vd SM WQ
  have vd:ax s8 u.next l.cells:=vd
  have n7:=jX.next
  have k8:ar u.next u s8:=jX.trans ⟨by omega,fun j hj=>WQ j (by omega)⟩
  have la:aJ af s8 58 (.pointer (some ⟨u.next,0,some 6⟩))=some (fE l):=ax.bF (P:=af) (cs:=l.cells) mi dp vd (c:=6) rfl
  simp only[aj,ak,aa,QS,Qx,↓ab,hn,h1,eX,la]
  refine(abl s8 l v c m (hv.keeps k8).aG hc hm J8).mono ?_
  rintro _ s9 ⟨w,rfl,hw⟩
  have k9:=hw.stay
  have x0:∀z,ba (.tuple #[w,z]) 0=some w:=fun _=>rfl
  have x1:∀z,ba (.tuple #[w,z]) 1=some z:=fun _=>rfl
  have n8:=k8.next
  have rq:ar t0.next t0 s9:=(aE.trans (k8.weaken nu)).trans (k9.weaken (by omega))
  simp only[om] at hU
  by_cases ce:(fM l c m).2=0
  rotate_left
  ·rw[a9 ce] at hU
   simp only[aj,ak,QS,Qx,↓ab,hn,x0,x1,bl,av ce]
   exact hQ _ _ _ (.inl ⟨rfl,_,hU,rq,by simp only[ad,ag,↓ab,Qx,hn,dT]⟩)
  rw[a5 (fun h=>h ce)] at hU
  simp(disch:=omega)only[aj,ak,QS,Qx,↓ab,hn,h36,x0,x1,bl,an ce,aD]
  refine ay (L.length-(i+1)) (by omega) ⟨i+1,w,_,0,rfl,by omega,hU,Zk ce,hw.own,fun j hj=>by have:=hw.fresh j hj;have:=dX.next;omega,rq,by simp only[ag,hn],by simp only[ad,↓ab,Qx,h1],by simp only[ad,↓ab,Qx],by simp only[ad,↓ab,Qx,wG],by simp only[ad,↓ab,Qx,h35],by simp only[ad,↓ab];rfl⟩
 clear hn h1 h2 h6 f
 rintro _ f u (⟨rfl,z,hU,aE,hn,h4,h5⟩|⟨rfl,v,c,hU,hv,J9,aE,hn,eX⟩)
 ·rw[hU] at hD
  simp only[aj,al,oneOf,QS,↓ab,hn,h4,h5,cB]
  rw[fw,hD]
  exact⟨_,rfl,⟨.nil,aF.nil _,dX.trans (aE.weaken dX.next)⟩⟩
 ·rw[hU] at hD
  simp only[aj,al,oneOf,QS,Qx,↓ab,hn,eX,cB]
  rw[fw,hD]
  exact⟨v,rfl,⟨hv,J9,dX.trans (aE.weaken dX.next)⟩⟩
end Go.Proofs.YtdfjfncifneocaaGreat
namespace Go.Cl.Ch
open Go.Cl.Pr Go.Cl.Hx Go.Cl.B85
theorem Yk:∀(n:cc) (l:a3 cm),l.length<=n->(F1 l).length<=2*l.length+2:=by
 intro n
 induction n with
 |zero=>
  intro l hl
  have:l=[]:=cd (by omega)
  subst this
  rw[oX];simp
 |succ n ih=>
  intro l hl
  by_cases h:l=[]
  ·subst h;rw[oX];simp
  have hp:0<l.length:=List.length_pos_iff.mpr h
  have:=ih (l.drop (min 4 l.length)) (by rw[dt];omega)
  rw[dt] at this
  by_cases h2:min 4 l.length=4/\val l 4=0
  ·rw[Wp h h2,eg];omega
  ·rw[nX h h2,cx,eh];omega
theorem Yl (l:a3 cm):(Fx.DF l).length<=l.length+l.length/1000+11:=by
 have h1:(Fx.DF l).length=(Fx.kh l).length+6:=by unfold Fx.DF;simp[qm]
 have h2:=Fx.Lv l
 have h3:=Sto.qX _ l (a8 _)
 unfold Sto.blocks at h3
 omega
theorem JU (l:a3 cm):8*(Lz.E5 l).length<=13*l.length+41:=by
 have h1:=Lz.Hr l
 have h2:(Lz.E5 l).length=((Lz.lH l).length+7)/8:=Lz.oY _ _ (a8 _)
 omega
theorem afn (l:Lk)(b:a3 cm):4*((pN l b).1.length+14)<=13*(b.length+14):=by
 have hp:=xA l.p l.co l.cl b
 unfold pN
 split
 ·have:=tE b
  simp only[hex,cx,List.length_singleton];omega
 split
 ·have:=Yk b.length b (a8 _);simp only;omega
 split
 ·have:=Runs.xS b.length b (a8 _);simp only;omega
 split
 ·simp only[en];omega
 split
 ·have:=Yl (eJ l.p l.co l.cl b).1;simp only;omega
 ·have:=JU (eJ l.p l.co l.cl b).1;simp only;omega
theorem JV:∀(L:a3 Lk) (b:a3 cm),4^L.length*((cy L b).1.length+14)<=13^L.length*(b.length+14)
 |[],b=>by simp[cy]
 |l::L,b=>by
  have ih:=JV L b
  rw[eg,ew,ew]
  simp only[cy]
  split
  ·simp only[en,Nat.zero_add]
   have h4:4^L.length<=13^L.length:=Nat.pow_le_pow_left (by decide) _
   have Kg:4^L.length*4*14<=13^L.length*13*14:=Nat.mul_le_mul_right _ (Nat.mul_le_mul h4 (by decide))
   exact ey Kg (cv _ (by omega))
  ·have h:=afn l (cy L b).1
   have e1:4^L.length*4*((pN l (cy L b).1).1.length+14)=4^L.length*(4*((pN l (cy L b).1).1.length+14)):=ev _ _ _
   have e2:4^L.length*(13*((cy L b).1.length+14))=13*(4^L.length*((cy L b).1.length+14)):=Nat.mul_left_comm _ _ _
   have e3:13^L.length*13*(b.length+14)=13*(13^L.length*(b.length+14)):=by rw[Nat.mul_comm (13^L.length) 13,ev]
   rw[e1,e3]
   exact ey (cv _ h) (by rw[e2];exact cv _ ih)
theorem Ib {L:a3 Lk}{b:a3 cm}(hL:L.length<=7)(hb:b.length<=400):(cy L b).1.length<=2000000:=by
 have h:=JV L b
 obtain⟨n,hn⟩:∃n,n=L.length:=⟨_,rfl⟩
 rw[<-hn] at h hL
 have:n=0\/n=1\/n=2\/n=3\/n=4\/n=5\/n=6\/n=7:=by omega
 rcases this with rfl|rfl|rfl|rfl|rfl|rfl|rfl|rfl<;>simp at h<;>omega
theorem PQ {L:a3 Lk}{b:a3 cm}(hL:L.length<=8)(hb:b.length<=400):(cy L b).1.length<=7000000:=by
 have h:=JV L b
 obtain⟨n,hn⟩:∃n,n=L.length:=⟨_,rfl⟩
 rw[<-hn] at h hL
 have:n<=7\/n=8:=by omega
 rcases this with h7|rfl
 ·have:=Ib (L:=L) (b:=b) (by omega) hb;omega
 ·simp at h;omega
end Go.Cl.Ch
namespace Go.Cl.Ch
def iq (L:a3 Lk)(i:cc):a3 Lk:=(L.take i).map fx++L.drop i
theorem Uf (L:a3 Lk):iq L 0=L:=by simp[iq]
theorem Ym (L:a3 Lk):iq L L.length=L.map fx:=by simp[iq]
theorem M1 (L:a3 Lk)(i:cc)(h:i<=L.length):(iq L i).length=L.length:=by simp[iq];omega
theorem M3 {L:a3 Lk}{i:cc}(h:i<L.length):((L.take i).map fx).length=i:=by rw[cg,eh];omega
theorem abu {L:a3 Lk}{i:cc}(h:i<L.length):(iq L i)[i]?=some L[i]:=by
 have e:=M3 h
 unfold iq
 rw[List.getElem?_append_right (by omega),List.getElem?_drop,e,dx,dE,ds h]
theorem Ug {L:a3 Lk}{i:cc}(h:i<L.length):iq L (i+1)=(iq L i).set i (fx L[i]):=by
 have e:=M3 h
 unfold iq
 rw[List.set_append_right _ _ (by omega),e,dx,a6 h,List.map_append,ao h,List.set_cons_zero,c3]
 rfl
theorem RI {L:a3 Lk}{i:cc}(h:i<L.length)(l:Lk):ki (L.set i l)=(ki L).take (i*5)++l.cells++(ki L).drop (i*5+5):=by
 induction L generalizing i with
 |nil=>simp at h
 |cons a L ih=>
  cases i with
  |zero=>simp[ki,Lk.cells]
  |succ i=>
   have:=ih (i:=i) (by simpa using h)
   simp only[ki,List.set_cons_succ,List.map_cons,List.flatten_cons] at this|-
   rw[this]
   have ha:a.cells.length=5:=rfl
   rw[show(i+1)*5=a.cells.length+i*5 by omega,List.take_length_add_append,show a.cells.length+i*5+5=a.cells.length+(i*5+5) by omega,List.drop_length_add_append]
   simp only[c3]
theorem Yn {L:a3 Lk}{i:cc}(h:i<L.length)(a b c:cA):over (ki L) (i*5+0) [.int .i64 a,.int .i64 b,.int .i64 c]=ki (L.set i {L[i] with p:=a,co:=b,cl:=c}):=by
 rw[RI h]
 unfold over
 have e:=tH h
 have e2:(ki L).drop (i*5+3)=(L[i].cells).drop 3++(ki L).drop (i*5+5):=by
  have e3:(ki L).drop (i*5)=L[i].cells++(ki L).drop (i*5+5):=by
   rw[<-e,<-eo,List.take_append_drop]
  rw[<-eo,e3,List.drop_append]
  rfl
 rw[dE]
 show _++_++(ki L).drop (i*5+3)=_
 rw[e2]
 simp[Lk.cells]
theorem Ui {M:a3 Lk}{b:a3 cm}{k:cc}(ce:(cy (M.drop k) b).2≠0)(hk:k<=M.length):∀j,j<=k->(cy (M.drop j) b).2=(cy (M.drop k) b).2/\(cy (M.drop j) b).2≠0:=by
 intro j hj
 obtain⟨d,hd⟩:∃d,d=k-j:=⟨_,rfl⟩
 induction d generalizing j with
 |zero=>
  obtain rfl:j=k:=by omega
  exact⟨rfl,ce⟩
 |succ d ih=>
  obtain⟨i1,i2⟩:=ih (j+1) (by omega) (by omega)
  have hj2:j<M.length:=by omega
  rw[ao hj2]
  simp only[cy]
  rw[a9 i2]
  exact⟨i1,i2⟩
theorem Ic {M:a3 Lk}(dH:∀l∈M,Nx l):∀l∈M,l.name.length<=100000:=fun l hl=>by
 have:=(dH l hl).1
 simp only[v8,List.mem_cons,List.not_mem_nil,or_false] at this
 rcases this with h|h|h|h|h<;>(rw[h];decide)
def wx (L:a3 Lk)(b:a3 cm):O×cA:=
 if¬∀l∈L.map fx,Nx l then(O.none,1) else if 8<L.length then(O.none,3)
 else if(cy (L.map fx) b).2≠0 then(O.none,(cy (L.map fx) b).2) else(.mk 8 0 (cy (L.map fx) b).1 [] (cV [] (kV (L.map fx))),0)
end Go.Cl.Ch
namespace Go.Proofs.YtdfjfncifneocaaGreat
open Go.Cl Go.Cl.Pr Go.Cl.Ch
theorem ajH {s:aq}{v:bs}{n:cc}{l:a3 bs}(h:aN s 5 v n l){k:cc}(hk:k<n):au af 58 (bc 5 v k) 0=some (b6 (bc 5 v k) 0):=by
 obtain⟨i,off,c,e1,_⟩:=h.cells hk
 rw[e1]
 unfold au;rw[Tryz.underlying58];simp[b6,rW]
theorem aoB (p co cl:cA):cQ af .eql 56 (i3 p co cl) (i3 0 0 0)=some (.bool (decide (p=0/\co=0/\cl=0))):=by
 have h:BJ af 56 #[.int .i64 p,.int .i64 co,.int .i64 cl] #[.int .i64 0,.int .i64 0,.int .i64 0]=some (p==0&&(co==0&&(cl==0&&true))):=by kernel_rfl
 simp only[cQ,h]
 congr 2
 rw[Bool.eq_iff_iff]
 simp
theorem abv (s:aq)(x:bs)(n:cc)(lx:a3 bs)(hx:aN s 5 x n lx)(vY:n<=1000000)(dH:lx.all aL=true):
  Runs af df 44 [x] s fun v s' =>Own s' 5 v n lx/\aF s.next v/\ar s.next s s' :=by
 refine Runs.enter 8 Tryz.func44 rfl rfl rfl rfl ?_
 intro f hn hf
 have h0:f.get 0=x:=hf 0
 clear hf
 have UK:=b4
 have MX:bV af 58=some (fE ⟨0,0,0,[],0⟩):=by kernel_rfl
 have yp:bN (fE ⟨0,0,0,[],0⟩)=true:=by kernel_rfl
 have Yj:eY af 58=some 48:=by kernel_rfl
 simp only[aj,QS,Qx,↓ab,hn,h0,hx.oP UK]
 refine iN (fun h=> ?_) (fun h=> ?_)
 ·obtain⟨h1,h2,_⟩:=hx.isNil h
  subst h1
  have:lx=[]:=cd (by have:=hx.length;omega)
  subst this
  simp only[aj,al,oneOf,QS,↓ab,hn,ep]
  exact⟨.nil,aF.nil _,ar.refl _ _⟩
 ·simp only[aj,ae,y9 UK dp MX yp rfl]
  refine aQ (by rfl) ?_
  intro b s1 hb hF aE
  simp only[aj,aa,QS,Qx,↓ab,hn,h0]
  refine bY UK UK (.inl ⟨_,rfl⟩) dp Yj MX rfl hb (hx.keeps aE).src hx.length (by decide) dH (by omega) (by omega) hF aE.next ?_
  intro b' s2 pL ze dO _ _
  simp only[aj,al,oneOf,QS,↓ab,hn,ep]
  exact⟨by simpa using pL,ze,aE.trans dO⟩
def Yo (s:aq)(p:O×cA)(v:bs)(s' :aq):Prop:=∃cs,v= .tuple #[.agg cs.toArray,.int .i64 p.2]/\dy (fun j=>s.next<=j) s' cs p.1/\ar s.next s s'
theorem yu (s:aq)(x y:bs)(b:a3 cm)(L:a3 Lk)(hx:aN s 1 x b.length (ofBytes b))(hy:aN s 5 y L.length (ki L))(sG:L.length<=8->(cy (L.map fx) b).1.length<=7000000)(hb:L.length<=8->∀j,(cy ((L.map fx).drop (j+1)) b).1.length<=2000000)(hL:L.length<=1000):
  Runs af df 22 [x,y] s (Yo s (wx L b)):=by
 obtain⟨QQ,fw⟩:∃QQ:bs->aq->Prop,QQ=Yo s (wx L b):=⟨_,rfl⟩
 rw[<-fw]
 refine Runs.enter 76 Tryz.func22 rfl rfl rfl rfl ?_
 intro f hn hf
 have h0:f.get 0=x:=hf 0
 have h1:f.get 1=y:=hf 1
 clear hf
 have UK:=b4
 simp(disch:=omega)only[aj,↓ab,zO,wD]
 refine aw ?_
 intro s1 eK bn iV
 have mh:de.length+1=6:=rfl
 have n1:=bn.next
 simp(disch:=omega)only[aj,ak,aa,QS,Qx,↓ab,hn,h1,mh]
 refine(abv s1 y L.length (ki L) (hy.keeps bn) (by omega) (aek L)).mono ?_
 rintro w s2 ⟨hw,yD,aR⟩
 have n2:=aR.next
 have dD:=eK.keeps aR
 simp(disch:=omega)only[aj,aa,QS,↓ab,hn,hw.aG.bm UK]
 refine Comes.bQ (fun q f t=>∃(i:cc),q=L.length-i/\i<=L.length/\Own t 5 w L.length (ki (iq L i))/\(∀l∈L.take i,Nx (fx l))/\ax t s.next de/\ar s1.next s1 t/\f.n=76/\f.get 0=x/\f.get 4= .pointer (some ⟨s.next,0,some 6⟩)/\f.get 6=w/\f.get 14= .int .i64 (L.length:cc)/\f.get 15= .int .i64 (i:cc))
  (fun q f t=>(q= .ret/\(¬∀l∈L.map fx,Nx l)/\ax t s.next de/\ar s.next s t/\f.n=76/\f.get 4= .pointer (some ⟨s.next,0,some 6⟩)/\f.get 5= .int .i64 1)\/(q= .exit 0/\(∀l∈L.map fx,Nx l)/\Own t 5 w L.length (ki (L.map fx))/\ax t s.next de/\ar s1.next s1 t/\f.n=76/\f.get 0=x/\f.get 4= .pointer (some ⟨s.next,0,some 6⟩)/\f.get 6=w))
  ⟨0,rfl,by omega,by rw[Uf];exact hw,by simp,dD,aR,by simp only[ag,hn],by simp only[ad,↓ab,Qx,h0],by simp only[ad,↓ab,Qx],by simp only[ad,↓ab,Qx],by simp only[ad,↓ab,Qx],by simp only[ad,↓ab];rfl⟩ ?_ ?_
 ·clear hn h0 h1 f
  rintro Q hQ q f t ⟨i,rfl,hi,hw,dH,ht,aE,hn,h0,h4,h6,nY,my⟩
  have nt:=aE.next
  by_cases bd:i<L.length
  rotate_left
  ·obtain rfl:i=L.length:=by omega
   have d1:¬((L.length:cc):cA)<((L.length:cc):cA):=by omega
   rw[ee] at dH
   rw[Ym] at hw
   simp(disch:=omega)only[aj,QS,↓ab,hn,nY,my,a0 d1]
   exact hQ _ _ _ (.inr ⟨rfl,fun l hl=>by obtain⟨a,ha,rfl⟩:=ed.1 hl;exact dH a ha,hw,ht,aE,by simp only[ag,hn],by simp only[ad,↓ab,Qx,h0],by simp only[ad,↓ab,Qx,h4],by simp only[ad,↓ab,Qx,h6]⟩)
  have d1:(i:cA)<(L.length:cA):=by omega
  have gB:=hw.aG.indexAddr (P:=af) (k:= .i64) (x:=(i:cA)) UK dp (by omega) (by omega)
  rw[a4] at gB
  have J8:=M1 L i hi
  have hg:(iq L i)[i]?=some L[i]:=abu bd
  have yM:i<(iq L i).length:=by omega
  have hgi:(iq L i)[i]=L[i]:=by rw[ds yM] at hg;exact Option.some.inj hg
  have za:=tH yM
  rw[hgi] at za
  obtain⟨l,hl⟩:∃l,l=L[i]:=⟨_,rfl⟩
  rw[<-hl] at za hgi
  have Nn:=ajH hw.aG bd
  have kr:aJ af t 56 (b6 (bc 5 w i) 0)=some (i3 l.p l.co l.cl):=by
   have:=hw.aG.xU (P:=af) Ay rW bd (j:=0) (by decide)
   rw[this]
   have e2:((ki (iq L i)).drop (i*5+0)).take 3=(((ki (iq L i)).drop (i*5)).take 5).take 3:=by rw[et,dE];rfl
   rw[e2,za];rfl
  have bz:cC af 56 []=some (i3 0 0 0):=by kernel_rfl
  have bo:cC af 26 []=some (.agg de.toArray):=by kernel_rfl
  have vp:bZ (b6 (bc 5 w i) 0) (b6 (bc 5 w i) 0)=true:=vH _ _ _ _
  simp(disch:=omega)only[aj,ae,QS,Qx,↓ab,hn,h6,nY,my,bg d1,gB,Nn,kr,bz,aoB]
  generalize hK:rP af df (Code.seq (Code.region _ _ _) (Code.cond _ _ _)) _=K
  have hfs:=Ug bd
  rw[<-hl] at hfs
  have pE:=RI yM (fx l)
  rw[<-hfs] at pE
  have go:∀(f:aW) (t' :aq),f.n=76->f.get 0=x->f.get 4= .pointer (some ⟨s.next,0,some 6⟩)->f.get 6=w->f.get 7= .int .i64 (i:cc)->f.get 14= .int .i64 (L.length:cc)->f.get 15= .int .i64 (i:cc)->Own t' 5 w L.length (ki (iq L (i+1)))->ax t' s.next de->ar s1.next s1 t' ->K .normal f t' :=by
   clear hn h0 h4 h6 nY my f hw ht aE gB Nn kr za vp
   intro f t' hn h0 h4 h6 h7 nY my hw ht aE
   subst hK
   have nt:=aE.next
   have gB:=hw.aG.indexAddr (P:=af) (k:= .i64) (x:=(i:cA)) UK dp (by omega) (by omega)
   rw[a4] at gB
   have J8:=M1 L (i+1) bd
   have aid:i<(iq L (i+1)).length:=by omega
   have aoC:(iq L (i+1))[i]=fx l:=by simp[hfs]
   have za:=tH aid
   rw[aoC] at za
   have Nn:=ajH hw.aG bd
   have kr:∀t2,ar t'.next t' t2->aJ af t2 56 (b6 (bc 5 w i) 0)=some (i3 (fx l).p (fx l).co (fx l).cl):=fun t2 h2=>by
    have:=(hw.keeps h2).aG.xU (P:=af) Ay rW bd (j:=0) (by decide)
    rw[this]
    have e2:((ki (iq L (i+1))).drop (i*5+0)).take 3=(((ki (iq L (i+1))).drop (i*5)).take 5).take 3:=by rw[et,dE];rfl
    rw[e2,za];rfl
   have fz:=hw.aG.fJ (P:=af) mi dp bd
   rw[za] at fz
   simp(disch:=omega)only[aj,ak,aa,QS,Qx,↓ab,hn,h6,h7,gB,fz]
   refine(HB t' (fx l)).mono ?_
   rintro _ t2 ⟨rfl,k2⟩
   have m2:=k2.next
   by_cases c1:(fx l).name∈v8
   rotate_left
   ·rw[av c1]
    simp(disch:=omega)only[aj,ak,ae,QS,Qx,↓ab,undef,hn,h4,bo]
    refine aB iL (by decide) (ht.keeps k2) rfl rfl rfl rfl ?_
    intro t3 jM mQ fB
    have jM:ax t3 s.next de:=jM
    simp(disch:=omega)only[aj,QS,↓ab,hn]
    exact hQ _ _ _ (.inl ⟨rfl,fun eC=>c1 (eC _ (ed.2 ⟨L[i],bk bd,by rw[hl]⟩)).1,jM,(bn.trans ((aE.trans (k2.weaken nt)).weaken n1)).trans ⟨by omega,fun j hj=>fB j (by omega)⟩,by simp only[ag,hn],by simp only[ad,↓ab,Qx,h4],by simp only[ad,↓ab]⟩)
   rw[an c1]
   simp(disch:=omega)only[aj,ak,aa,QS,Qx,↓ab,hn,h6,h7,gB,Nn,kr _ k2]
   refine(xF (lib:=df) rfl t2 (fx l).p (fx l).co (fx l).cl).mono ?_
   rintro _ t3 ⟨rfl,k3⟩
   have m3:=k3.next
   have k23:ar t'.next t' t3:=k2.trans (k3.weaken m2)
   by_cases c2:oC (fx l).p (fx l).co (fx l).cl
   rotate_left
   ·rw[av c2]
    simp(disch:=omega)only[aj,ak,ae,QS,Qx,↓ab,hn,h4,bo]
    refine aB iL (by decide) (ht.keeps k23) rfl rfl rfl rfl ?_
    intro t4 gv vY vh
    have gv:ax t4 s.next de:=gv
    simp(disch:=omega)only[aj,QS,↓ab,hn]
    exact hQ _ _ _ (.inl ⟨rfl,fun eC=>c2 (eC _ (ed.2 ⟨L[i],bk bd,by rw[hl]⟩)).2,gv,(bn.trans ((aE.trans (k23.weaken nt)).weaken n1)).trans ⟨by omega,fun j hj=>vh j (by omega)⟩,by simp only[ag,hn],by simp only[ad,↓ab,Qx,h4],by simp only[ad,↓ab]⟩)
   rw[an c2]
   simp(disch:=omega)only[aj,ak,QS,Qx,↓ab,hn,my,aD]
   refine ay (L.length-(i+1)) (by omega) ⟨i+1,rfl,by omega,hw.keeps k23,fun a ha=> ?_,ht.keeps k23,aE.trans (k23.weaken nt),by simp only[ag,hn],by simp only[ad,↓ab,Qx,h0],by simp only[ad,↓ab,Qx,h4],by simp only[ad,↓ab,Qx,h6],by simp only[ad,↓ab,Qx,nY],by simp only[ad,↓ab];rfl⟩
   rw[a6 bd,<-hl] at ha
   rcases ek.1 ha with ha|ha
   ·exact dH a ha
   ·rw[ea.1 ha];exact⟨c1,c2⟩
  by_cases cz:l.p=0/\l.co=0/\l.cl=0
  ·have Hl:fx l={l with p:=1,co:=1,cl:=1}:=by unfold fx;rw[a9 cz]
   simp(disch:=omega)only[aj,ak,aa,QS,Qx,↓ab,hn,h6,an cz]
   refine(Tq t).mono ?_
   rintro _ t2 ⟨rfl,k2⟩
   have aoD:=(hw.keeps k2).aG.indexAddr (P:=af) (k:= .i64) (x:=(i:cA)) UK dp (by omega) (by omega)
   rw[a4] at aoD
   simp(disch:=omega)only[aj,QS,Qx,↓ab,hn,gB,Nn]
   obtain⟨t3,e3,Nt,Ef⟩:=(hw.keeps k2).ahc (P:=af) (e:=56) rW (by decide) bd (j:=0) (by decide) (w:=i3 1 1 1) (vs:=l3 1 1 1) rfl rfl rfl (p:=b6 (bc 5 w i) 0) (fun a o c h=>by rw[h];rfl)
   have Nt:Own t3 5 w L.length (ki (iq L (i+1))):=by
    have:=Yn yM 1 1 1
    rw[hgi,<-Hl,<-hfs] at this
    rw[<-this];exact Nt
   simp(disch:=omega)only[aj,e3]
   exact go _ _ (by simp only[ag,hn]) (by simp only[ad,↓ab,Qx,h0]) (by simp only[ad,↓ab,Qx,h4]) (by simp only[ad,↓ab,Qx,h6]) (by simp only[ad,↓ab,Qx]) (by simp only[ad,↓ab,Qx,nY]) (by simp only[ad,↓ab,Qx,my]) Nt ((ht.keeps k2).turns Ef (fun e=>by have:=yD _ e;omega)) ((aE.trans (k2.weaken nt)).trans (Ef.keeps yD (by have:=k2.next;omega)))
  ·have Hl:fx l=l:=by unfold fx;rw[a5 cz]
   have wL:iq L (i+1)=iq L i:=by
    rw[hfs,Hl,<-hgi];exact List.set_getElem_self yM
   simp(disch:=omega)only[aj,av cz]
   exact go _ _ (by simp only[ag,hn]) (by simp only[ad,↓ab,Qx,h0]) (by simp only[ad,↓ab,Qx,h4]) (by simp only[ad,↓ab,Qx,h6]) (by simp only[ad,↓ab,Qx]) (by simp only[ad,↓ab,Qx,nY]) (by simp only[ad,↓ab,Qx,my]) (by rw[wL];exact hw) ht aE
 clear hn h0 h1 f
 rintro _ f t (⟨rfl,kF,ht,aE,hn,h4,h5⟩|⟨rfl,dH,hw,ht,aE,hn,h0,h4,h6⟩)
 ·have e:wx L b=(O.none,1):=by unfold wx;rw[a9 kF]
  have lo:=ax.gl ht rfl
  simp(disch:=omega)only[aj,al,oneOf,QS,↓ab,hn,h4,h5,lo,aV,cH]
  rw[fw,e]
  exact⟨de,rfl,dy.none _ _,aE⟩
 have nt:=aE.next
 by_cases c8:8<L.length
 ·have d8:((L.length:cc):cA)>8:=by omega
  have bo:cC af 26 []=some (.agg de.toArray):=by kernel_rfl
  have e:wx L b=(O.none,3):=by unfold wx;rw[a5 (fun h=>h dH),a9 c8]
  simp(disch:=omega)only[aj,aa,ae,QS,Qx,↓ab,hn,h4,h6,hw.aG.bm UK,bg d8,bo]
  refine aB iL (by decide) ht rfl rfl rfl rfl ?_
  intro t4 gv vY vh
  have gv:ax t4 s.next de:=gv
  have lo:=ax.gl gv rfl
  simp(disch:=omega)only[aj,al,oneOf,QS,Qx,↓ab,hn,h4,lo,aV,cH]
  rw[fw,e]
  exact⟨de,rfl,dy.none _ _,(bn.trans (aE.weaken n1)).trans ⟨by omega,fun j hj=>vh j (by omega)⟩⟩
 have d8:¬((L.length:cc):cA)>8:=by omega
 obtain⟨M,hM⟩:∃M,M=L.map fx:=⟨_,rfl⟩
 have hMl:M.length=L.length:=by rw[hM,cg]
 have eM:wx L b=if(cy M b).2≠0 then(O.none,(cy M b).2) else(.mk 8 0 (cy M b).1 [] (cV [] (kV M)),0):=by
  unfold wx;rw[a5 (fun h=>h dH),a5 c8,<-hM]
 rw[<-hM] at dH hw
 have Tp:ar s.next s t:=bn.trans (aE.weaken n1)
 simp(disch:=omega)only[aj,aa,QS,Qx,↓ab,hn,h0,h6,hw.aG.bm UK,a0 d8,aD]
 refine Comes.bQ (fun q f u=>∃(k:cc) (v:bs),q=k/\k<=M.length/\(cy (M.drop k) b).2=0/\aN u 1 v (cy (M.drop k) b).1.length (ofBytes (cy (M.drop k) b).1)/\ar t.next t u/\f.n=76/\f.get 4= .pointer (some ⟨s.next,0,some 6⟩)/\f.get 6=w/\f.get 8=v/\f.get 9= .int .i64 ((k:cA)-1))
  (fun q f u=>(q= .ret/\(cy M b).2≠0/\ax u s.next de/\ar s.next s u/\f.n=76/\f.get 4= .pointer (some ⟨s.next,0,some 6⟩)/\f.get 5= .int .i64 (cy M b).2)\/(q= .exit 2/\∃v,(cy M b).2=0/\aN u 1 v (cy M b).1.length (ofBytes (cy M b).1)/\ar t.next t u/\f.n=76/\f.get 4= .pointer (some ⟨s.next,0,some 6⟩)/\f.get 6=w/\f.get 8=v))
  ⟨M.length,x,rfl,a8 _,by rw[b7];rfl,by rw[b7];exact hx.keeps Tp,ar.refl _ _,by simp only[ag,hn],by simp only[ad,↓ab,Qx,h4],by simp only[ad,↓ab,Qx,h6],by simp only[ad,↓ab,Qx],by simp only[ad,↓ab,hMl]⟩ ?_ ?_
 ·clear hn h0 h4 h6 f
  rintro Q hQ k f u ⟨_,v,rfl,hk,he,hv,hu,hn,h4,h6,h8,h9⟩
  have nu:=hu.next
  cases k with
  |zero=>
   rw[eu] at he hv
   have d1:¬(((0:cc):cA)-1>=0):=by decide
   simp(disch:=omega)only[aj,QS,↓ab,hn,h9,a0 d1]
   exact hQ _ _ _ (.inr ⟨rfl,v,he,hv,hu,by simp only[ag,hn],by simp only[ad,↓ab,Qx,h4],by simp only[ad,↓ab,Qx,h6],by simp only[ad,↓ab,Qx,h8]⟩)
  |succ k=>
   have bd:k<M.length:=hk
   have d1:((k+1:cc):cA)-1>=0:=by omega
   have e9:((k+1:cc):cA)-1=(k:cA):=by omega
   rw[e9] at h9 d1
   have hwu:=hw.keeps hu
   have gB:=hwu.aG.indexAddr (P:=af) (k:= .i64) (x:=(k:cA)) UK dp (by omega) (by omega)
   rw[a4] at gB
   have fz:=hwu.aG.fJ (P:=af) mi dp (k:=k) (by omega)
   rw[tH bd] at fz
   obtain⟨l,hl⟩:∃l,l=M[k]:=⟨_,rfl⟩
   rw[<-hl] at fz
   have FP:M.drop k=l::M.drop (k+1):=by rw[ao bd,hl]
   have hdo:cy (M.drop k) b=pN l (cy (M.drop (k+1)) b).1:=by rw[FP];simp only[cy];rw[a5 (fun h=>h he)]
   have dd:=hb (by omega) k
   rw[<-hM] at dd
   simp(disch:=omega)only[aj,ak,aa,QS,Qx,↓ab,hn,h6,h8,h9,bg d1,gB,fz]
   refine(aez u l v _ hv (by omega)).mono ?_
   rintro _ u2 ⟨v2,rfl,Ke⟩
   have x0:∀z,ba (.tuple #[v2,z]) 0=some v2:=fun _=>rfl
   have x1:∀z,ba (.tuple #[v2,z]) 1=some z:=fun _=>rfl
   rw[<-hdo] at Ke|-
   have ku:=Ke.stay
   have J4:ar t.next t u2:=hu.trans (ku.weaken nu)
   have nu2:=J4.next
   by_cases ce:(cy (M.drop k) b).2=0
   rotate_left
   ·have bo:cC af 26 []=some (.agg de.toArray):=by kernel_rfl
    have eC:=Ui ce (by omega)
    obtain⟨a1,a2⟩:=eC 0 (by omega)
    rw[eu] at a1 a2
    simp(disch:=omega)only[aj,ak,ae,QS,Qx,↓ab,hn,h4,x0,x1,bl,av ce,bo]
    refine aB iL (by decide) (ht.keeps J4) rfl rfl rfl rfl ?_
    intro t4 gv vY vh
    have gv:ax t4 s.next de:=gv
    simp(disch:=omega)only[aj,QS,↓ab,hn]
    exact hQ _ _ _ (.inl ⟨rfl,a2,gv,(Tp.trans (J4.weaken (by omega))).trans ⟨by omega,fun j hj=>vh j (by omega)⟩,by simp only[ag,hn],by simp only[ad,↓ab,Qx,h4],by simp only[ad,↓ab,a1]⟩)
   simp(disch:=omega)only[aj,ak,QS,Qx,↓ab,hn,h9,x0,x1,bl,an ce,aD]
   exact ay k (by omega) ⟨k,v2,rfl,by omega,ce,Ke.own.aG,J4,by simp only[ag,hn],by simp only[ad,↓ab,Qx,h4],by simp only[ad,↓ab,Qx,h6],by simp only[ad,↓ab,Qx],by simp only[ad,↓ab]⟩
 clear hn h0 h4 h6 f
 rintro _ f u (⟨rfl,kF,hu,hsu,hn,h4,h5⟩|⟨rfl,v,he,hv,hu,hn,h4,h6,h8⟩)
 ·have lo:=ax.gl hu rfl
  rw[a9 kF] at eM
  simp(disch:=omega)only[aj,al,oneOf,QS,↓ab,hn,h4,h5,lo,aV,cH]
  rw[fw,eM]
  exact⟨de,rfl,dy.none _ _,hsu⟩
 rw[a5 (fun h=>h he)] at eM
 have nu:=hu.next
 have hNm:=Ic dH
 have hwu:=(hw.keeps hu).aG
 rw[<-hMl] at hwu
 simp(disch:=omega)only[aj,ak,aa,QS,Qx,↓ab,hn,h6,h8]
 refine(Ge u w M hwu (by omega) hNm).mono ?_
 rintro z u2 ⟨lx,hz,hR,k2⟩
 have nk2:=k2.next
 have dd:=sG (by omega)
 rw[<-hM] at dd
 simp(disch:=omega)only[aj,ak,aa,QS,Qx,↓ab,hn]
 have hEs:∀e∈kV M,Small e.2:=fun e he=>MW hNm (by omega) e he
 refine(OT (lib:=df) acQ _ u2 v _ (hv.keeps k2) (by omega) z (kV M) lx hz hR (by have:=H7 M;omega) hEs).mono ?_
 rintro _ u3 ⟨cs,rfl,ho,k3⟩
 have nk3:=k3.next
 simp(disch:=omega)only[aj,QS,Qx,↓ab,hn,h4]
 refine aB iL (by decide) ((ht.keeps hu).keeps (k2.trans (k3.weaken nk2))) rfl rfl (by simpa using ho.len) ho.ok ?_
 intro t4 gv vY vh
 have gv:ax t4 s.next cs:=gv
 have lo:=ax.gl gv ho.len
 simp(disch:=omega)only[aj,al,oneOf,QS,Qx,↓ab,hn,h4,lo,aV,cH]
 rw[fw,eM]
 obtain⟨c2,e2,o2,p2⟩:=lK.put (F:=fun j=>u2.next<=j) (s:=s) ho (fun j hj=>⟨by omega,by omega⟩) vY vh (((Tp.trans (hu.weaken (by omega))).trans (k2.weaken (by omega))).trans (k3.weaken (by omega))) (a8 _)
 exact⟨cs,rfl,by injection e2 with e2;have:=congrArg Array.toList e2;rw[dY,dY] at this;rw[this];exact o2,p2⟩
theorem yv (s:aq)(x y:bs)(b:a3 cm)(L:a3 Lk)(hx:aN s 1 x b.length (ofBytes b))(hy:aN s 5 y L.length (ki L))(hb:b.length<=400)(hL:L.length<=1000):
  Runs af df 22 [x,y] s (Yo s (wx L b)):=
 yu s x y b L hx hy (fun h=>PQ (by rw[cg];omega) hb) (fun h j=>Ib (by rw[dt,cg];omega) hb) hL
end Go.Proofs.YtdfjfncifneocaaGreat
