import Derived.Test.YtdfjfncifneocaaGreatChG
import Derived.Test.YtdfjfncifneocaaGreatStands
set_option linter.unusedSimpArgs false
set_option linter.unusedVariables false
set_option maxRecDepth 100000
namespace Go.Proofs.YtdfjfncifneocaaGreat
open Go.Cl Go.Cl.Pr Go.Cl.Ch
set_option maxHeartbeats 16000000 in
theorem Dx (s:aq)(x y:Value)(b:List UInt8)(L:List Lk)(hx:aM s 1 x b.length (ofBytes b))(hy:aM s 5 y L.length (kD L))(hb:b.length<=400)(hL:L.length<=1000):
  Runs Tryz.prog cQ 24 [x,y] s (Mp s (qU L b)):=by
 obtain⟨QQ,gj⟩:∃QQ:Value->aq->Prop,QQ=Mp s (qU L b):=⟨_,rfl⟩
 rw[<-gj]
 refine Runs.enter 164 Tryz.func24 rfl rfl rfl rfl ?_
 intro f hn hf
 have h0:f.get 0=x:=hf 0
 have h1:f.get 1=y:=hf 1
 clear hf
 have UK:=Tryz.underlying35
 have UO:=Tryz.underlying23
 have Ss:cE Tryz.prog 68=some (kV ⟨0,0,0,[],0⟩):=by kernel_rfl
 have KP:cH (kV ⟨0,0,0,[],0⟩)=true:=by kernel_rfl
 have Ry:eW Tryz.prog 68=some 48:=by kernel_rfl
 have bo:dM Tryz.prog 26 []=some (.agg cr.toArray):=by kernel_rfl
 have bz:dM Tryz.prog 66 []=some (i3 0 0 0):=by kernel_rfl
 have b1:dM Tryz.prog 66 [(0,.int .i64 1),(1,.int .i64 1),(2,.int .i64 1)]=some (i3 1 1 1):=by kernel_rfl
 simp-implicitDefEqProofs(disch:=omega)only[ai,↓reduceIte,zO,oQ]
 refine aw ?_
 intro s1 fa bB jb
 have il:cr.length+1=6:=rfl
 have n1:=bB.next
 simp-implicitDefEqProofs(disch:=omega)only[ai,ag,Nat.reduceLT,↓reduceIte,hn,il,xk UK ue Ss KP rfl]
 refine aQ (by rfl) ?_
 intro w0 s15 R6 hF0 RS
 simp-implicitDefEqProofs(disch:=omega)only[ai,ad,Nat.reduceLT,Nat.reduceEqDiff,↓reduceIte,hn,h1]
 refine bG UK UK (.inl ⟨_,rfl⟩) ue Ry Ss rfl R6 (hy.keeps (bB.trans (RS.weaken n1))).src hy.length (by decide) (Ra L) (by omega) (by omega) hF0 RS.next ?_
 intro w s2 hw lF Cz _ _
 have hw:Own s2 5 w L.length (kD L):=by simpa using hw
 have bD:ar s1.next s1 s2:=RS.trans Cz
 have n2:=bD.next
 have fm:=fa.keeps bD
 simp-implicitDefEqProofs(disch:=omega)only[ai,Nat.reduceLT,↓reduceIte,hn]
 refine Comes.bC (fun q f t=>∃(i:Nat),q=L.length-i/\i<=L.length/\Own t 5 w L.length (kD (fg L i))/\(∀l∈L.take i,Sn (dp l))/\av t s.next cr/\ar s1.next s1 t/\f.n=164/\f.get 0=x/\f.get 4= .pointer (some ⟨s.next,0,some 6⟩)/\f.get 6=w/\f.get 7= .int .i64 (i:Nat))
  (fun q f t=>(q= .ret/\(¬∀l∈L.map dp,Sn l)/\av t s.next cr/\ar s.next s t/\f.n=164/\f.get 4= .pointer (some ⟨s.next,0,some 6⟩)/\f.get 5= .int .i64 1)\/(q= .exit 0/\(∀l∈L.map dp,Sn l)/\Own t 5 w L.length (kD (L.map dp))/\av t s.next cr/\ar s1.next s1 t/\f.n=164/\f.get 0=x/\f.get 4= .pointer (some ⟨s.next,0,some 6⟩)/\f.get 6=w))
  ⟨0,rfl,by omega,by rw[EL];exact hw,by simp,fm,bD,by simp only[ae,hn],by simp only[aa,↓reduceIte,Nat.reduceEqDiff,h0],by simp only[aa,↓reduceIte,Nat.reduceEqDiff],by simp only[aa,↓reduceIte,Nat.reduceEqDiff],by simp only[aa,↓reduceIte];rfl⟩ ?_ ?_
 ·clear hn h0 h1 f
  rintro Q hQ q f t ⟨i,rfl,hi,hw,dE,ht,aA,hn,h0,h4,h6,h7⟩
  have nt:=aA.next
  by_cases aP:i<L.length
  rotate_left
  ·obtain rfl:i=L.length:=by omega
   have d1:¬((L.length:Nat):Int)<((L.length:Nat):Int):=by omega
   rw[List.take_length] at dE
   rw[Iy] at hw
   simp-implicitDefEqProofs(disch:=omega)only[ai,ad,Nat.reduceLT,Nat.reduceEqDiff,↓reduceIte,hn,h6,h7,hw.aH.aV UK,eq_false d1]
   exact hQ _ _ _ (.inr ⟨rfl,fun l hl=>by obtain⟨a,ha,rfl⟩:=List.mem_map.1 hl;exact dE a ha,hw,ht,aA,by simp only[ae,hn],by simp only[aa,↓reduceIte,Nat.reduceEqDiff,h0],by simp only[aa,↓reduceIte,Nat.reduceEqDiff,h4],by simp only[aa,↓reduceIte,Nat.reduceEqDiff,h6]⟩)
  have d1:(i:Int)<(L.length:Int):=by omega
  have dI:=hw.aH.indexAddr (P:=Tryz.prog) (k:= .i64) (x:=(i:Int)) UK ue (by omega) (by omega)
  rw[Int.toNat_natCast] at dI
  have HN:=wG L i hi
  have hg:(fg L i)[i]?=some L[i]:=Mn aP
  have zf:i<(fg L i).length:=by omega
  have PF:(fg L i)[i]=L[i]:=by rw[List.getElem?_eq_getElem zf] at hg;exact Option.some.inj hg
  have lj:=oO zf
  rw[PF] at lj
  obtain⟨l,hl⟩:∃l,l=L[i]:=⟨_,rfl⟩
  rw[<-hl] at lj PF
  have wK:=(RR hw.aH aP).1
  have kx:aG Tryz.prog t 66 (bR (aT 5 w i) 0)=some (i3 l.p l.co l.cl):=by
   have:=hw.aH.kz (P:=Tryz.prog) HC yS aP (j:=0) (by decide)
   rw[this]
   have e2:((kD (fg L i)).drop (i*5+0)).take 3=(((kD (fg L i)).drop (i*5)).take 5).take 3:=by rw[List.take_take,Nat.add_zero];rfl
   rw[e2,lj];rfl
  simp-implicitDefEqProofs(disch:=omega)only[ai,ad,ag,Nat.reduceLT,Nat.reduceEqDiff,↓reduceIte,hn,h6,h7,hw.aH.aV UK,eq_true d1,dI,wK,kx,bz,aaX]
  generalize hK:mR Tryz.prog cQ (Code.seq (Code.region _ _ _) (Code.cond _ _ _)) _=K
  have Su:=EM aP
  rw[<-hl] at Su
  have go:∀(f:aR) (t' :aq),f.n=164->f.get 0=x->f.get 4= .pointer (some ⟨s.next,0,some 6⟩)->f.get 6=w->f.get 7= .int .i64 (i:Nat)->Own t' 5 w L.length (kD (fg L (i+1)))->av t' s.next cr->ar s1.next s1 t' ->K .normal f t' :=by
   clear hn h0 h4 h6 h7 f hw ht aA dI wK kx lj
   intro f t' hn h0 h4 h6 h7 hw ht aA
   subst hK
   have nt:=aA.next
   have dI:=hw.aH.indexAddr (P:=Tryz.prog) (k:= .i64) (x:=(i:Int)) UK ue (by omega) (by omega)
   rw[Int.toNat_natCast] at dI
   have HN:=wG L (i+1) aP
   have Kx:i<(fg L (i+1)).length:=by omega
   have Uj:(fg L (i+1))[i]=dp l:=by simp[Su]
   have lj:=oO Kx
   rw[Uj] at lj
   have wK:=RR hw.aH aP
   have kx:∀t2,ar t'.next t' t2->aG Tryz.prog t2 66 (bR (aT 5 w i) 0)=some (i3 (dp l).p (dp l).co (dp l).cl):=fun t2 h2=>by
    have:=(hw.keeps h2).aH.kz (P:=Tryz.prog) HC yS aP (j:=0) (by decide)
    rw[this]
    have e2:((kD (fg L (i+1))).drop (i*5+0)).take 3=(((kD (fg L (i+1))).drop (i*5)).take 5).take 3:=by rw[List.take_take,Nat.add_zero];rfl
    rw[e2,lj];rfl
   have fM:aG Tryz.prog t' 9 (bR (aT 5 w i) 3)=some (.string ⟨(dp l).name.toArray⟩):=by
    have:=hw.aH.eC (P:=Tryz.prog) mW aP (j:=3) (by decide)
    rw[this,lG Kx 3 (by decide),Uj];rfl
   simp-implicitDefEqProofs(disch:=omega)only[ai,aj,ad,Nat.reduceLT,Nat.reduceEqDiff,↓reduceIte,hn,h6,h7,dI,wK.2.1,fM]
   refine(RQ t' (dp l).name).mono ?_
   rintro _ t2 ⟨rfl,rfl⟩
   by_cases c1:(dp l).name∈zt
   rotate_left
   ·rw[decide_eq_false c1]
    simp-implicitDefEqProofs(disch:=omega)only[ai,aj,ag,Nat.reduceLT,Nat.reduceEqDiff,↓reduceIte,undef,hn,h4,bo]
    refine aE eO (by decide) ht rfl rfl rfl rfl ?_
    intro t3 nB td ij
    have nB:av t3 s.next cr:=nB
    simp-implicitDefEqProofs(disch:=omega)only[ai,Nat.reduceLT,↓reduceIte,hn]
    exact hQ _ _ _ (.inl ⟨rfl,fun dS=>c1 (dS _ (List.mem_map.2 ⟨L[i],List.getElem_mem aP,by rw[hl]⟩)).1,nB,(bB.trans (aA.weaken n1)).trans ⟨by omega,fun j hj=>ij j (by omega)⟩,by simp only[ae,hn],by simp only[aa,↓reduceIte,Nat.reduceEqDiff,h4],by simp only[aa,↓reduceIte]⟩)
   rw[decide_eq_true c1]
   simp-implicitDefEqProofs(disch:=omega)only[ai,aj,ad,Nat.reduceLT,Nat.reduceEqDiff,↓reduceIte,hn,h6,h7,dI,wK.1,kx _ (ar.refl _ _)]
   refine(Ei (lib:=cQ) rfl t2 (dp l).p (dp l).co (dp l).cl).mono ?_
   rintro _ t3 ⟨rfl,OY⟩
   have m3:=OY.next
   by_cases c2:qO (dp l).p (dp l).co (dp l).cl
   rotate_left
   ·rw[decide_eq_false c2]
    simp-implicitDefEqProofs(disch:=omega)only[ai,aj,ag,Nat.reduceLT,Nat.reduceEqDiff,↓reduceIte,hn,h4,bo]
    refine aE eO (by decide) (ht.keeps OY) rfl rfl rfl rfl ?_
    intro t4 fU N4 FX
    have fU:av t4 s.next cr:=fU
    simp-implicitDefEqProofs(disch:=omega)only[ai,Nat.reduceLT,↓reduceIte,hn]
    exact hQ _ _ _ (.inl ⟨rfl,fun dS=>c2 (dS _ (List.mem_map.2 ⟨L[i],List.getElem_mem aP,by rw[hl]⟩)).2,fU,(bB.trans ((aA.trans (OY.weaken nt)).weaken n1)).trans ⟨by omega,fun j hj=>FX j (by omega)⟩,by simp only[ae,hn],by simp only[aa,↓reduceIte,Nat.reduceEqDiff,h4],by simp only[aa,↓reduceIte]⟩)
   rw[decide_eq_true c2]
   simp-implicitDefEqProofs(disch:=omega)only[ai,aj,Nat.reduceLT,Nat.reduceEqDiff,↓reduceIte,hn,h7,aD]
   refine au (L.length-(i+1)) (by omega) ⟨i+1,rfl,by omega,hw.keeps OY,fun a ha=> ?_,ht.keeps OY,aA.trans (OY.weaken nt),by simp only[ae,hn],by simp only[aa,↓reduceIte,Nat.reduceEqDiff,h0],by simp only[aa,↓reduceIte,Nat.reduceEqDiff,h4],by simp only[aa,↓reduceIte,Nat.reduceEqDiff,h6],by simp only[aa,↓reduceIte];rfl⟩
   rw[List.take_succ_eq_append_getElem aP,<-hl] at ha
   rcases List.mem_append.1 ha with ha|ha
   ·exact dE a ha
   ·rw[List.mem_singleton.1 ha];exact⟨c1,c2⟩
  by_cases cz:l.p=0/\l.co=0/\l.cl=0
  ·have xJ:dp l={l with p:=1,co:=1,cl:=1}:=by unfold dp;rw[if_pos cz]
   obtain⟨t3,e3,zK,hu3⟩:=hw.Wd (P:=Tryz.prog) (e:=66) yS (by decide) aP (j:=0) (by decide) (w:=i3 1 1 1) (vs:=l3 1 1 1) rfl rfl rfl (p:=bR (aT 5 w i) 0) (fun a o c h=>by rw[h];rfl)
   have zK:Own t3 5 w L.length (kD (fg L (i+1))):=by
    have:=IA zf 1 1 1
    rw[PF,<-xJ,<-Su] at this
    rw[<-this];exact zK
   simp-implicitDefEqProofs(disch:=omega)only[ai,ag,Nat.reduceLT,Nat.reduceEqDiff,↓reduceIte,hn,h6,h7,decide_eq_true cz,b1,dI,wK,e3]
   exact go _ _ (by simp only[ae,hn]) (by simp only[aa,↓reduceIte,Nat.reduceEqDiff,h0]) (by simp only[aa,↓reduceIte,Nat.reduceEqDiff,h4]) (by simp only[aa,↓reduceIte,Nat.reduceEqDiff,h6]) (by simp only[aa,↓reduceIte,Nat.reduceEqDiff,h7]) zK (ht.turns hu3 (fun e=>by have:=lF _ e;omega)) (aA.trans (hu3.keeps lF nt))
  ·have xJ:dp l=l:=by unfold dp;rw[if_neg cz]
   have j6:fg L (i+1)=fg L i:=by
    rw[Su,xJ,<-PF];exact List.set_getElem_self zf
   simp-implicitDefEqProofs(disch:=omega)only[ai,decide_eq_false cz]
   exact go _ _ (by simp only[ae,hn]) (by simp only[aa,↓reduceIte,Nat.reduceEqDiff,h0]) (by simp only[aa,↓reduceIte,Nat.reduceEqDiff,h4]) (by simp only[aa,↓reduceIte,Nat.reduceEqDiff,h6]) (by simp only[aa,↓reduceIte,Nat.reduceEqDiff,h7]) (by rw[j6];exact hw) ht aA
 clear hn h0 h1 f
 rintro _ f t (⟨rfl,Db,ht,aA,hn,h4,h5⟩|⟨rfl,dE,hw,ht,aA,hn,h0,h4,h6⟩)
 ·have e:qU L b=(O.none,1):=by unfold qU;rw[if_pos Db]
  have lo:=av.dQ ht rfl
  simp-implicitDefEqProofs(disch:=omega)only[ai,al,oneOf,Nat.reduceLT,↓reduceIte,hn,h4,h5,lo,aW,Tryz.results24]
  rw[gj,e]
  exact⟨cr,rfl,dr.none _ _,aA⟩
 have nt:=aA.next
 by_cases c8:8<L.length
 ·have d8:((L.length:Nat):Int)>8:=by omega
  have e:qU L b=(O.none,3):=by unfold qU;rw[if_neg (fun h=>h dE),if_pos c8]
  simp-implicitDefEqProofs(disch:=omega)only[ai,ad,ag,Nat.reduceLT,Nat.reduceEqDiff,↓reduceIte,hn,h4,h6,hw.aH.aV UK,eq_true d8,bo]
  refine aE eO (by decide) ht rfl rfl rfl rfl ?_
  intro t4 fU N4 FX
  have fU:av t4 s.next cr:=fU
  have lo:=av.dQ fU rfl
  simp-implicitDefEqProofs(disch:=omega)only[ai,al,oneOf,Nat.reduceLT,Nat.reduceEqDiff,↓reduceIte,hn,h4,lo,aW,Tryz.results24]
  rw[gj,e]
  exact⟨cr,rfl,dr.none _ _,(bB.trans (aA.weaken n1)).trans ⟨by omega,fun j hj=>FX j (by omega)⟩⟩
 have d8:¬((L.length:Nat):Int)>8:=by omega
 obtain⟨M,hM⟩:∃M,M=L.map dp:=⟨_,rfl⟩
 have hMl:M.length=L.length:=by rw[hM,List.length_map]
 have eM:qU L b=if(eD M b).2≠0 then(O.none,(eD M b).2) else(.mk 8 0 (eD M b).1 [] (b6 [] (kB M)),0):=by
  unfold qU;rw[if_neg (fun h=>h dE),if_neg c8,<-hM]
 rw[<-hM] at dE hw
 have FU:ar s.next s t:=bB.trans (aA.weaken n1)
 simp-implicitDefEqProofs(disch:=omega)only[ai,aj,ad,Nat.reduceLT,Nat.reduceEqDiff,↓reduceIte,hn,h0,h6,hw.aH.aV UK,eq_false d8]
 refine(r6 (lib:=cQ) rfl t x b (hx.keeps FU) (by omega)).mono ?_
 rintro v0 t1 ⟨hv0,aeT,kt1⟩
 have m1:=kt1.next
 simp-implicitDefEqProofs(disch:=omega)only[ai,aj,ad,Nat.reduceLT,↓reduceIte,hn]
 refine(VB t1).mono ?_
 rintro _ t2 ⟨rfl,kt2⟩
 have m2:=kt2.next
 simp-implicitDefEqProofs(disch:=omega)only[ai,aj,ad,Nat.reduceLT,↓reduceIte,hn]
 refine(VB t2).mono ?_
 rintro _ t3 ⟨rfl,kt3⟩
 have m3:=kt3.next
 simp-implicitDefEqProofs(disch:=omega)only[ai,Nat.reduceLT,↓reduceIte,hn,zO,oQ]
 refine aw ?_
 intro t4 Ml ka4 na4
 simp-implicitDefEqProofs(disch:=omega)only[ai,Nat.reduceLT,↓reduceIte,hn,zO,oQ,il]
 refine aw ?_
 intro t5 TX kb5 nb5
 simp-implicitDefEqProofs(disch:=omega)only[ai,Nat.reduceLT,Nat.reduceEqDiff,↓reduceIte,hn,il]
 refine aE eO (by decide) (Ml.keeps kb5) rfl rfl rfl rfl ?_
 intro t6 ha6 nx6 Md
 have ha6:av t6 t3.next (mC (.slice none 0 0)):=ha6
 simp-implicitDefEqProofs(disch:=omega)only[ai,Nat.reduceLT,Nat.reduceEqDiff,↓reduceIte,hn]
 refine aE eO (by decide) (TX.bc nx6 Md (by omega)) rfl rfl rfl rfl ?_
 intro t7 Ja nx7 lQ
 have Ja:av t7 t4.next (mC (.slice none 0 0)):=Ja
 have ha7:av t7 t3.next (mC (.slice none 0 0)):=ha6.bc nx7 lQ (by omega)
 have aaZ:ar t.next t t3:=(kt1.trans (kt2.weaken m1)).trans (kt3.weaken (by omega))
 have k37:ar t3.next t3 t7:=(ka4.trans (kb5.weaken (by omega))).trans ⟨by omega,fun j hj=>by rw[lQ j (by omega),Md j (by omega)]⟩
 have m03:=aaZ.next
 have k07:ar t.next t t7:=aaZ.trans (k37.weaken m03)
 have m37:=k37.next
 obtain⟨a,ha⟩:∃a,a=t3.next:=⟨_,rfl⟩
 obtain⟨c,hc⟩:∃c,c=t4.next:=⟨_,rfl⟩
 rw[<-ha] at ha7
 rw[<-hc] at Ja
 have og:=ht.keeps k07
 have W6:=hw.keeps k07
 have Mr:Own t7 1 v0 b.length (ofBytes b):=hv0.keeps ((kt2.trans (kt3.weaken m2)).trans (k37.weaken (by omega)))
 have aa0:=hv0.jh
 have aa1:=hw.jh
 simp-implicitDefEqProofs(disch:=omega)only[ai,ad,Nat.reduceLT,Nat.reduceEqDiff,↓reduceIte,hn,h6,W6.aH.aV UK,aD]
 refine Comes.bC (fun q f u=>∃(k:Nat) (v:Value),q=k/\k<=M.length/\(eD (M.drop k) b).2=0/\aM u 1 v (eD (M.drop k) b).1.length (ofBytes (eD (M.drop k) b).1)/\(∀j,aJ v=some j->j≠a/\j≠c)/\ar t7.next t7 u/\f.n=164/\f.get 4= .pointer (some ⟨s.next,0,some 6⟩)/\f.get 6=w/\f.get 8=v/\f.get 9= .bool false/\f.get 10= .pointer (some ⟨a,0,some 6⟩)/\f.get 11= .pointer (some ⟨c,0,some 6⟩)/\f.get 12= .int .i64 ((k:Int)-1))
  (fun q f u=>(q= .ret/\(eD M b).2≠0/\av u s.next cr/\ar s.next s u/\f.n=164/\f.get 4= .pointer (some ⟨s.next,0,some 6⟩)/\f.get 5= .int .i64 (eD M b).2)\/(q= .exit 2/\∃v,(eD M b).2=0/\aM u 1 v (eD M b).1.length (ofBytes (eD M b).1)/\(∀j,aJ v=some j->j≠a/\j≠c)/\ar t7.next t7 u/\f.n=164/\f.get 4= .pointer (some ⟨s.next,0,some 6⟩)/\f.get 6=w/\f.get 8=v/\f.get 9= .bool false/\f.get 10= .pointer (some ⟨a,0,some 6⟩)/\f.get 11= .pointer (some ⟨c,0,some 6⟩)))
  ⟨M.length,v0,rfl,Nat.le_refl _,by rw[List.drop_length];rfl,by rw[List.drop_length];exact Mr.aH,fun j hj=>by have:=aa0 j hj;omega,ar.refl _ _,by simp only[ae,hn],by simp only[aa,↓reduceIte,Nat.reduceEqDiff,h4],by simp only[aa,↓reduceIte,Nat.reduceEqDiff,h6],by simp only[aa,↓reduceIte,Nat.reduceEqDiff],by simp only[aa,↓reduceIte,Nat.reduceEqDiff],by simp only[aa,↓reduceIte,Nat.reduceEqDiff,ha],by simp only[aa,↓reduceIte,Nat.reduceEqDiff,hc],by simp only[aa,↓reduceIte,hMl]⟩ ?_ ?_
 ·clear hn h0 h4 h6 f
  rintro Q hQ k f u ⟨_,v,rfl,hk,he,hv,Da,hu,hn,h4,h6,h8,h9,dz,gX,pB⟩
  have nu:=hu.next
  cases k with
  |zero=>
   rw[List.drop_zero] at he hv
   have d1:¬(((0:Nat):Int)-1>=0):=by decide
   simp-implicitDefEqProofs(disch:=omega)only[ai,aj,Nat.reduceLT,↓reduceIte,hn,pB,eq_false d1]
   exact hQ _ _ _ (.inr ⟨rfl,v,he,hv,Da,hu,by simp only[ae,hn],by simp only[aa,↓reduceIte,Nat.reduceEqDiff,h4],by simp only[aa,↓reduceIte,Nat.reduceEqDiff,h6],by simp only[aa,↓reduceIte,Nat.reduceEqDiff,h8],by simp only[aa,↓reduceIte,Nat.reduceEqDiff,h9],by simp only[aa,↓reduceIte,Nat.reduceEqDiff,dz],by simp only[aa,↓reduceIte,Nat.reduceEqDiff,gX]⟩)
  |succ k=>
   have aP:k<M.length:=hk
   have d1:((k+1:Nat):Int)-1>=0:=by omega
   have e9:((k+1:Nat):Int)-1=(k:Int):=by omega
   rw[e9] at pB d1
   have Jy:=W6.keeps hu
   have dI:=Jy.aH.indexAddr (P:=Tryz.prog) (k:= .i64) (x:=(k:Int)) UK ue (by omega) (by omega)
   rw[Int.toNat_natCast] at dI
   have fM:=Jy.aH.eF (P:=Tryz.prog) VA ue (k:=k) (by omega)
   rw[oO aP] at fM
   obtain⟨l,hl⟩:∃l,l=M[k]:=⟨_,rfl⟩
   rw[<-hl] at fM
   have J0:M.drop k=l::M.drop (k+1):=by rw[List.drop_eq_getElem_cons aP,hl]
   have YL:eD (M.drop k) b=sB l (eD (M.drop (k+1)) b).1:=by rw[J0];simp only[eD];rw[if_neg (fun h=>h he)]
   have dh:=x8 (L:=M.drop (k+1)) (b:=b) (by rw[List.length_drop];omega) hb
   simp-implicitDefEqProofs(disch:=omega)only[ai,aj,ad,Nat.reduceLT,Nat.reduceEqDiff,↓reduceIte,hn,h6,h8,pB,eq_true d1,dI,fM]
   refine(Uo u l v _ hv (by omega)).mono ?_
   rintro _ u2 ⟨v2,rfl,Sp⟩
   have x0:∀z,cN (.tuple #[v2,z]) 0=some v2:=fun _=>rfl
   have x1:∀z,cN (.tuple #[v2,z]) 1=some z:=fun _=>rfl
   rw[<-YL] at Sp|-
   have ku:=Sp.stay
   have G3:ar t7.next t7 u2:=hu.trans (ku.weaken nu)
   have nu2:=G3.next
   by_cases ce:(eD (M.drop k) b).2=0
   rotate_left
   ·have dS:∀j,j<=k->(eD (M.drop j) b).2=(eD (M.drop k) b).2/\(eD (M.drop j) b).2≠0:=EN ce (by omega)
    obtain⟨a1,a2⟩:=dS 0 (by omega)
    rw[List.drop_zero] at a1 a2
    simp-implicitDefEqProofs(disch:=omega)only[ai,aj,ag,Nat.reduceLT,Nat.reduceEqDiff,↓reduceIte,hn,h4,x0,x1,decide_not,decide_eq_false ce,bo]
    refine aE eO (by decide) (og.keeps G3) rfl rfl rfl rfl ?_
    intro t4 fU N4 FX
    have fU:av t4 s.next cr:=fU
    simp-implicitDefEqProofs(disch:=omega)only[ai,Nat.reduceLT,↓reduceIte,hn]
    exact hQ _ _ _ (.inl ⟨rfl,a2,fU,((FU.trans (k07.weaken (by omega))).trans (G3.weaken (by omega))).trans ⟨by omega,fun j hj=>FX j (by omega)⟩,by simp only[ae,hn],by simp only[aa,↓reduceIte,Nat.reduceEqDiff,h4],by simp only[aa,↓reduceIte,a1]⟩)
   simp-implicitDefEqProofs(disch:=omega)only[ai,aj,Nat.reduceLT,Nat.reduceEqDiff,↓reduceIte,hn,pB,x0,x1,decide_not,decide_eq_true ce,aD]
   exact au k (by omega) ⟨k,v2,rfl,by omega,ce,Sp.own.aH,fun j hj=>by have:=Sp.fresh j hj;omega,G3,by simp only[ae,hn],by simp only[aa,↓reduceIte,Nat.reduceEqDiff,h4],by simp only[aa,↓reduceIte,Nat.reduceEqDiff,h6],by simp only[aa,↓reduceIte,Nat.reduceEqDiff],by simp only[aa,↓reduceIte,Nat.reduceEqDiff,h9],by simp only[aa,↓reduceIte,Nat.reduceEqDiff,dz],by simp only[aa,↓reduceIte,Nat.reduceEqDiff,gX],by simp only[aa,↓reduceIte]⟩
 clear hn h0 h4 h6 f
 rintro _ f u (⟨rfl,Db,hu,hsu,hn,h4,h5⟩|⟨rfl,v,he,hv,Da,hu,hn,h4,h6,h8,h9,dz,gX⟩)
 ·have lo:=av.dQ hu rfl
  rw[if_pos Db] at eM
  simp-implicitDefEqProofs(disch:=omega)only[ai,al,oneOf,Nat.reduceLT,↓reduceIte,hn,h4,h5,lo,aW,Tryz.results24]
  rw[gj,eM]
  exact⟨cr,rfl,dr.none _ _,hsu⟩
 rw[if_neg (fun h=>h he)] at eM
 have nu:=hu.next
 have Uk:∀l∈M,l.name.length<=100000:=x9 dE
 have hau:=ha7.keeps hu
 have hcu:=Ja.keeps hu
 have Jy:=(W6.keeps hu).aH
 rw[<-hMl] at Jy
 have DO:=og.keeps hu
 have k0u:ar s.next s u:=(FU.trans (k07.weaken (by omega))).trans (hu.weaken (by omega))
 have hac:a≠c:=by omega
 have K6:s1.next<=a/\s1.next<=c/\a<u.next/\c<u.next:=by omega
 have Oy:∀j,aJ w=some j->j≠a/\j≠c:=fun j hj=>by have:=aa1 j hj;omega
 clear aa1 aa0 Md lQ ha6 TX Ml Mr hv0 aeT
 simp-implicitDefEqProofs(disch:=omega)only[ai,Nat.reduceLT,↓reduceIte,hn]
 refine Comes.bC (fun q f t=>∃(i:Nat) (y z:Value) (LC MC:List Value),q=M.length-i/\i<=M.length/\Own t 5 y i LC/\Own t 5 z i MC/\aL dr 5 (kE u.next (fun _=>False) y z) t (dj (M.take i)) LC/\aL dr 5 (kE u.next (fun _=>False) y z) t (fG (M.take i)) MC/\aN u.next y/\aN u.next z/\(∀j,aJ y=some j->aJ z≠some j)/\av t a (mC y)/\av t c (mC z)/\Jb a c u t/\f.n=164/\f.get 4= .pointer (some ⟨s.next,0,some 6⟩)/\f.get 6=w/\f.get 8=v/\f.get 9= .bool (qT (M.take i))/\f.get 10= .pointer (some ⟨a,0,some 6⟩)/\f.get 11= .pointer (some ⟨c,0,some 6⟩)/\f.get 15= .int .i64 (i:Nat))
  (fun q f t=>q= .exit 4/\∃(y z:Value) (LC MC:List Value),Own t 5 y M.length LC/\Own t 5 z M.length MC/\aL dr 5 (kE u.next (fun _=>False) y z) t (dj M) LC/\aL dr 5 (kE u.next (fun _=>False) y z) t (fG M) MC/\aN u.next y/\aN u.next z/\av t a (mC y)/\av t c (mC z)/\Jb a c u t/\f.n=164/\f.get 4= .pointer (some ⟨s.next,0,some 6⟩)/\f.get 6=w/\f.get 8=v/\f.get 9= .bool (qT M)/\f.get 10= .pointer (some ⟨a,0,some 6⟩)/\f.get 11= .pointer (some ⟨c,0,some 6⟩))
  ⟨0,.slice none 0 0,.slice none 0 0,[],[],rfl,by omega,.nil,.nil,by rw[List.take_zero];exact aL.nil,by rw[List.take_zero];exact aL.nil,aN.nil _,aN.nil _,(fun j h=>by cases h),hau,hcu,Jb.refl _ _ _,by simp only[ae,hn],by simp only[aa,↓reduceIte,Nat.reduceEqDiff,h4],by simp only[aa,↓reduceIte,Nat.reduceEqDiff,h6],by simp only[aa,↓reduceIte,Nat.reduceEqDiff,h8],by simp only[aa,↓reduceIte,Nat.reduceEqDiff,h9];rfl,by simp only[aa,↓reduceIte,Nat.reduceEqDiff,dz],by simp only[aa,↓reduceIte,Nat.reduceEqDiff,gX],by simp only[aa,↓reduceIte];rfl⟩ ?_ ?_
 ·clear hn h4 h6 h8 h9 dz gX f hau hcu
  rintro Q hQ q f t ⟨i,y,z,LC,MC,rfl,hi,hy,hz,hR,Ue,iQ,NP,hyz,ha,va,wJ,hn,h4,h6,h8,h9,dz,gX,lI⟩
  have nt2:=wJ.next
  have KC:aM t 5 w M.length (kD M):=Jy.same wJ.next (fun j hj e=>wJ.get j hj (Oy j e).1 (Oy j e).2)
  by_cases aP:i<M.length
  rotate_left
  ·obtain rfl:i=M.length:=by omega
   rw[List.take_length] at hR Ue h9
   have d1:¬((M.length:Nat):Int)<((M.length:Nat):Int):=by omega
   simp-implicitDefEqProofs(disch:=omega)only[ai,aj,ad,Nat.reduceLT,Nat.reduceEqDiff,↓reduceIte,hn,h6,lI,KC.aV UK,eq_false d1]
   exact hQ _ _ _ ⟨rfl,y,z,LC,MC,hy,hz,hR,Ue,iQ,NP,ha,va,wJ,by simp only[ae,hn],by simp only[aa,↓reduceIte,Nat.reduceEqDiff,h4],by simp only[aa,↓reduceIte,Nat.reduceEqDiff,h6],by simp only[aa,↓reduceIte,Nat.reduceEqDiff,h8],by simp only[aa,↓reduceIte,Nat.reduceEqDiff,h9],by simp only[aa,↓reduceIte,Nat.reduceEqDiff,dz],by simp only[aa,↓reduceIte,Nat.reduceEqDiff,gX]⟩
  have d1:(i:Int)<(M.length:Int):=by omega
  have dI:∀{u2:aq},aM u2 5 w M.length (kD M)->dC Tryz.prog 35 w (.int .i64 (i:Nat))=some (aT 5 w i):=fun {u2} h=>by
   have:=h.indexAddr (P:=Tryz.prog) (k:= .i64) (x:=(i:Int)) UK ue (by omega) (by omega)
   rw[Int.toNat_natCast] at this;exact this
  have aa2:=dI KC
  have wK:=RR KC aP
  obtain⟨l,hl⟩:∃l,l=M[i]:=⟨_,rfl⟩
  have l0:aG Tryz.prog t 3 (bR (aT 5 w i) 0)=some (.int .i64 l.p):=by
   have:=KC.eC (P:=Tryz.prog) cj aP (j:=0) (by decide)
   rw[this,lG aP 0 (by decide),<-hl];rfl
  have Ru:qT (M.take (i+1))=(qT (M.take i)||decide (l.p≠1)):=by
   unfold qT
   rw[List.take_succ_eq_append_getElem aP,List.any_append,<-hl];simp
  have V0:dj (M.take (i+1))=dj (M.take i)++[sF l.name]:=by
   unfold dj;rw[List.take_succ_eq_append_getElem aP,List.map_append,<-hl];rfl
  have hpm:fG (M.take (i+1))=fG (M.take i)++[gB l]:=by
   unfold fG;rw[List.take_succ_eq_append_getElem aP,List.map_append,<-hl];rfl
  simp-implicitDefEqProofs(disch:=omega)only[ai,aj,ad,Nat.reduceLT,Nat.reduceEqDiff,↓reduceIte,hn,h6,h9,lI,KC.aV UK,eq_true d1]
  generalize hK:mR Tryz.prog cQ (Code.seq (Code.region _ _ _) (Code.region _ _ _)) _=K
  have go:∀f:aR,f.n=164->f.get 4= .pointer (some ⟨s.next,0,some 6⟩)->f.get 6=w->f.get 8=v->f.get 9= .bool (qT (M.take (i+1)))->f.get 10= .pointer (some ⟨a,0,some 6⟩)->f.get 11= .pointer (some ⟨c,0,some 6⟩)->f.get 15= .int .i64 (i:Nat)->K .normal f t:=by
   clear hn h4 h6 h8 h9 dz gX lI f l0
   intro f hn h4 h6 h8 h9 dz gX lI
   subst hK
   simp-implicitDefEqProofs(disch:=omega)only[ai]
   obtain⟨A,hA⟩:∃A:Nat->Bool,A=fun j=>decide (j<t.next):=⟨_,rfl⟩
   have ef:∀j,A j=true->j<t.next:=by
    intro j h
    rw[hA] at h
    exact of_decide_eq_true h
   have gW:∀j,j<t.next->A j=true:=fun j h=>by rw[hA];exact decide_eq_true h
   refine LB.cF.dy A ef 1 1 (by kernel_rfl) (by kernel_rfl) ?_
   have db:=ar.spare t 1
   have F1:(spare t 1).next=t.next+1:=bT _ _
   have nM:∀k,LA.dB A (some (.pointer (some ⟨a,k,some 6⟩)))=true:=fun k=>LA.bY (A:=A) (i:=a) (gW _ ha.lt)
   have la:aG Tryz.prog (spare t 1) 23 (.pointer (some ⟨a,3,some 6⟩))=some y:=(ha.keeps db).load wu (off:=3) (c:=6) rfl (by simp[mC])
   have hws:=KC.keeps db
   have lnm:aG Tryz.prog (spare t 1) 9 (bR (aT 5 w i) 3)=some (.string ⟨l.name.toArray⟩):=by
    have:=hws.eC (P:=Tryz.prog) mW aP (j:=3) (by decide)
    rw[this,lG aP 3 (by decide),<-hl];rfl
   have kx:=fun k=>LA.gy KC gW aP k
   have vp:∀k,bX (bR (aT 5 w i) k) (bR (aT 5 w i) k)=true:=fun k=>fA _ _ _ _
   have hlN:l.name.length<=100000:=Uk l (by rw[hl];exact List.getElem_mem aP)
   simp-implicitDefEqProofs(disch:=omega)only[ai,aj,bn,bp,Nat.sub_self,ad,ag,Nat.reduceLT,Nat.reduceEqDiff,↓reduceIte,hn,h6,dz,lI,Ex,nM,la,hy.self,KC.self,aa2,wK.2.1,vp,kx,lnm]
   refine(K4 (lib:=cQ) rfl (spare t 1) l.name (by omega)).mono ?_
   rintro _ p ⟨cp,rfl,op,kp⟩
   have mp:=kp.next
   refine⟨fun _=>LA.ar.lM ef (kp.weaken (by omega)),?_⟩
   have lp:=op.len
   simp-implicitDefEqProofs(disch:=omega)only[dY (cs:=cp.toArray) UO eO zO oQ rfl lp (by decide)]
   refine LB.bF (base:=t.next) lp (by omega) (Nat.le_refl _) ?_
   intro e1 b1' he1 aiP Rp nb1 ob1
   have OX:ar t.next t b1' :=(db.trans (kp.weaken (by omega))).trans Rp
   have mb1:=OX.next
   have GQ:=hy.jh
   have mf:=hz.jh
   have op' :dr (kE u.next (fun _=>False) y z) b1' cp (sF l.name):=((op.turns (u:= .pointer (some ⟨t.next,0,none⟩)) (bm.bc nb1 ob1) (fun j hj e=>by
    have e:some t.next=some j:=e
    injection e with e;omega)).mono (fun j hj=>⟨by omega,fun e=>e.elim id (fun e=>by have:=mf _ e;omega),fun e=>by have:=GQ _ e;omega⟩))
   simp-implicitDefEqProofs(disch:=omega)only[ai,bp,ad,Nat.reduceLT,Nat.reduceEqDiff,↓reduceIte,hn]
   refine LB.cZ UO UO (.inl ⟨_,rfl⟩) eO WA zO rfl (hy.keeps OX) he1.aH.src lp (by decide) op'.ok (by omega) (by omega) (base:=u.next) iQ (by omega) (fun h=>absurd rfl h) (fun j hj=>by have:=ef j hj;omega) ?_
   intro y' t2 OD Rr uj nJ
   have mt2:=uj.next
   have Yg:=kE.grow (hR.keeps bH OX) lp op' uj nJ
   have Vz:=kE.other (Ue.keeps bH OX) uj nJ
   rw[<-V0] at Yg
   have CY:∀j,aJ y' =some j->aJ y=some j\/b1'.next<=j:=fun j e=>by
    rcases nJ with h|⟨k,h,h2⟩
    ·left;rw[<-h];exact e
    ·right;rw[h] at e;injection e with e;omega
   have pR:Own t2 5 z i MC:=(hz.keeps OX).turns uj (fun j e e2=>hyz j e2 e)
   have Rs:∀j,aJ y' =some j->aJ z≠some j:=fun j e e2=>by
    rcases CY j e with h|h
    ·exact hyz j h e2
    ·have:=mf j e2;omega
   have hyn:∀n,n<u.next->aJ y≠some n:=fun n hn e=>by have:=iQ _ e;omega
   have aa3:∀n,n<u.next->aJ y' ≠some n:=fun n hn e=>by have:=Rr _ e;omega
   simp-implicitDefEqProofs(disch:=omega)only[ai,bn,bp,Nat.reduceSub,Nat.reduceLT,Nat.reduceEqDiff,↓reduceIte,hn,dz,Ex]
   refine LB.dX wq (by decide) ((ha.keeps OX).turns uj (hyn a K6.2.2.1)) (off:=3) (c:=6) rfl (vs:=[y']) OD.aH.kg rfl (by simp[mC]) (by simp[OD.aH.aO]) (fun h=>absurd rfl h) ?_
   intro GH O4 nx3 Yj
   have O4:av GH a (mC y'):=O4
   have JY:=OD.bc nx3 Yj (aa3 a K6.2.2.1)
   have Uf:=pR.bc nx3 Yj (fun e=>by have:=NP _ e;omega)
   have XR:=((va.keeps OX).turns uj (hyn c K6.2.2.2)).bc nx3 Yj (Ne.symm hac)
   have uc3:bm (.pointer (some ⟨a,0,none⟩)) t2 GH:=bm.bc nx3 Yj
   have nec:∀y z j,kE u.next (fun _=>False) y z j->aJ (.pointer (some ⟨a,0,none⟩))≠some j:=fun y z j hj e=>by
    have e:some a=some j:=e
    injection e with e;have:=hj.1;omega
   have hR3:=Yg.turns bH uc3 (nec _ _)
   have hM3:=Vz.turns bH uc3 (nec _ _)
   have RT:Jb a c u GH:=((wJ.stay OX).turns uj iQ).put nx3 Yj (.inl rfl)
   have XE:aM GH 5 w M.length (kD M):=Jy.same RT.next (fun j hj e=>RT.get j hj (Oy j e).1 (Oy j e).2)
   clear Yg Vz pR ha va uj nJ hR Ue hy hz la Yj uc3 nec op op' he1
   simp-implicitDefEqProofs(disch:=omega)only[ai,bp,Nat.reduceSub]
   obtain⟨B,hB⟩:∃B:Nat->Bool,B=fun j=>decide (j<GH.next):=⟨_,rfl⟩
   have OM:∀j,B j=true->j<GH.next:=by
    intro j h
    rw[hB] at h
    exact of_decide_eq_true h
   have Tv:∀j,j<GH.next->B j=true:=fun j h=>by rw[hB];exact decide_eq_true h
   refine LB.cF.dy B OM 1 1 (by kernel_rfl) (by kernel_rfl) ?_
   have vb:=ar.spare GH 1
   have hnU:(spare GH 1).next=GH.next+1:=bT _ _
   have aa5:∀k,LA.dB B (some (.pointer (some ⟨c,k,some 6⟩)))=true:=fun k=>LA.bY (A:=B) (i:=c) (Tv _ XR.lt)
   have lc3:aG Tryz.prog (spare GH 1) 23 (.pointer (some ⟨c,3,some 6⟩))=some z:=(XR.keeps vb).load wu (off:=3) (c:=6) rfl (by simp[mC])
   have hwq:=XE.keeps vb
   have ae5:=dI hwq
   have lnk:aG Tryz.prog (spare GH 1) 68 (aT 5 w i)=some (kV l):=by
    have:=hwq.eF (P:=Tryz.prog) VA ue aP
    rw[oO aP,<-hl] at this;exact this
   have Xy:=LA.di XE Tv aP
   have jY:bX (kV l) (kV l)=true:=by simp[bX,gp,cW,Lk.cells]
   simp-implicitDefEqProofs(disch:=omega)only[ai,aj,bn,bp,Nat.sub_self,ad,ag,Nat.reduceLT,Nat.reduceEqDiff,↓reduceIte,hn,h6,gX,lI,Ex,aa5,lc3,Uf.self,XE.self,ae5,Xy,lnk,jY]
   refine(K5 (spare GH 1) l).mono ?_
   rintro _ p2 ⟨cq,rfl,oq,kq⟩
   have mq:=kq.next
   refine⟨fun _=>LA.ar.lM OM (kq.weaken (by omega)),?_⟩
   have lq:=oq.len
   simp-implicitDefEqProofs(disch:=omega)only[dY (cs:=cq.toArray) UO eO zO oQ rfl lq (by decide)]
   refine LB.bF (base:=GH.next) lq (by omega) (Nat.le_refl _) ?_
   intro e2 b2' he2 Ar Oh nb2 ob2
   have IY:ar GH.next GH b2' :=(vb.trans (kq.weaken (by omega))).trans Oh
   have mb2:=IY.next
   have aa6:=JY.jh
   have ae7:=Uf.jh
   have oq' :dr (kE u.next (fun _=>False) z y') b2' cq (gB l):=((oq.turns (u:= .pointer (some ⟨GH.next,0,none⟩)) (bm.bc nb2 ob2) (fun j hj e=>by
    have e:some GH.next=some j:=e
    injection e with e;omega)).mono (fun j hj=>⟨by omega,fun e=>e.elim id (fun e=>by have:=aa6 _ e;omega),fun e=>by have:=ae7 _ e;omega⟩))
   simp-implicitDefEqProofs(disch:=omega)only[ai,bp,ad,Nat.reduceLT,Nat.reduceEqDiff,↓reduceIte,hn]
   refine LB.cZ UO UO (.inl ⟨_,rfl⟩) eO WA zO rfl (Uf.keeps IY) he2.aH.src lq (by decide) oq'.ok (by omega) (by omega) (base:=u.next) NP (by omega) (fun h=>absurd rfl h) (fun j hj=>by have:=OM j hj;omega) ?_
   intro z' t4' hz4 Rt XF KQ
   have mt4:=XF.next
   have hM4:=kE.y9 (kE.grow (kE.y9 (hM3.keeps bH IY)) lq oq' XF KQ)
   have hR4:=kE.y9 (kE.other (kE.y9 (hR3.keeps bH IY)) XF KQ)
   rw[<-hpm] at hM4
   have hzi:∀j,aJ z' =some j->aJ z=some j\/b2'.next<=j:=fun j e=>by
    rcases KQ with h|⟨k,h,h2⟩
    ·left;rw[<-h];exact e
    ·right;rw[h] at e;injection e with e;omega
   have hy4:Own t4' 5 y' (i+1) (LC++cp):=(JY.keeps IY).turns XF (fun j e e2=>Rs j e e2)
   have ae9:∀j,aJ y' =some j->aJ z' ≠some j:=fun j e e2=>by
    rcases hzi j e2 with h|h
    ·exact Rs j e h
    ·have:=aa6 j e;omega
   have E9:∀n,n<u.next->aJ z≠some n:=fun n hn e=>by have:=NP _ e;omega
   have afa:∀n,n<u.next->aJ z' ≠some n:=fun n hn e=>by have:=Rt _ e;omega
   simp-implicitDefEqProofs(disch:=omega)only[ai,bn,bp,Nat.reduceSub,Nat.reduceLT,Nat.reduceEqDiff,↓reduceIte,hn,gX,Ex]
   refine LB.dX wq (by decide) ((XR.keeps IY).turns XF (E9 c K6.2.2.2)) (off:=3) (c:=6) rfl (vs:=[z']) hz4.aH.kg rfl (by simp[mC]) (by simp[hz4.aH.aO]) (fun h=>absurd rfl h) ?_
   intro t5' hc5 nx5 ot5
   have hc5:av t5' c (mC z'):=hc5
   have hz5:=hz4.bc nx5 ot5 (afa c K6.2.2.2)
   have hy5:=hy4.bc nx5 ot5 (aa3 c K6.2.2.2)
   have ha5:=((O4.keeps IY).turns XF (E9 a K6.2.2.1)).bc nx5 ot5 hac
   have uc5:bm (.pointer (some ⟨c,0,none⟩)) t4' t5' :=bm.bc nx5 ot5
   have aa9:∀y z j,kE u.next (fun _=>False) y z j->aJ (.pointer (some ⟨c,0,none⟩))≠some j:=fun y z j hj e=>by
    have e:some c=some j:=e
    injection e with e;have:=hj.1;omega
   have hR5:=hR4.turns bH uc5 (aa9 _ _)
   have hM5:=hM4.turns bH uc5 (aa9 _ _)
   have aba:Jb a c u t5' :=((RT.stay IY).turns XF NP).put nx5 ot5 (.inr (.inl rfl))
   simp-implicitDefEqProofs(disch:=omega)only[ai,bp,Nat.reduceSub,Nat.reduceLT,Nat.reduceEqDiff,↓reduceIte,hn,lI,aD]
   exact au (M.length-(i+1)) (by omega) ⟨i+1,y',z',LC++cp,MC++cq,rfl,by omega,hy5,hz5,hR5,hM5,Rr,Rt,ae9,ha5,hc5,aba,by simp only[ae,hn],by simp only[aa,↓reduceIte,Nat.reduceEqDiff,h4],by simp only[aa,↓reduceIte,Nat.reduceEqDiff,h6],by simp only[aa,↓reduceIte,Nat.reduceEqDiff,h8],by simp only[aa,↓reduceIte,Nat.reduceEqDiff,h9],by simp only[aa,↓reduceIte,Nat.reduceEqDiff,dz],by simp only[aa,↓reduceIte,Nat.reduceEqDiff,gX],by simp only[aa,↓reduceIte];rfl⟩
  cases XG:qT (M.take i) with
  |true=>
   simp-implicitDefEqProofs(disch:=omega)only[ai,aj,Nat.reduceLT,Nat.reduceEqDiff,↓reduceIte,undef,hn]
   exact go _ (by simp only[ae,hn]) (by simp only[aa,↓reduceIte,Nat.reduceEqDiff,h4]) (by simp only[aa,↓reduceIte,Nat.reduceEqDiff,h6]) (by simp only[aa,↓reduceIte,Nat.reduceEqDiff,h8]) (by simp only[aa,↓reduceIte,Ru,XG,Bool.true_or]) (by simp only[aa,↓reduceIte,Nat.reduceEqDiff,dz]) (by simp only[aa,↓reduceIte,Nat.reduceEqDiff,gX]) (by simp only[aa,↓reduceIte,Nat.reduceEqDiff,lI])
  |false=>
   simp-implicitDefEqProofs(disch:=omega)only[ai,aj,Nat.reduceLT,Nat.reduceEqDiff,↓reduceIte,hn,h6,lI,aa2,wK.1,wK.2.2,l0]
   exact go _ (by simp only[ae,hn]) (by simp only[aa,↓reduceIte,Nat.reduceEqDiff,h4]) (by simp only[aa,↓reduceIte,Nat.reduceEqDiff,h6]) (by simp only[aa,↓reduceIte,Nat.reduceEqDiff,h8]) (by simp only[aa,↓reduceIte,Ru,XG,Bool.false_or]) (by simp only[aa,↓reduceIte,Nat.reduceEqDiff,dz]) (by simp only[aa,↓reduceIte,Nat.reduceEqDiff,gX]) (by simp only[aa,↓reduceIte,Nat.reduceEqDiff,lI])
 clear hn h4 h6 h8 h9 dz gX f hau hcu
 rintro _ f t ⟨rfl,y,z,LC,MC,hy,hz,hR,Ue,iQ,NP,ha,va,wJ,hn,h4,h6,h8,h9,dz,gX⟩
 have nt2:=wJ.next
 have KC:aM t 5 w M.length (kD M):=Jy.same wJ.next (fun j hj e=>wJ.get j hj (Oy j e).1 (Oy j e).2)
 have hvt:=hv.same wJ.next (fun j hj e=>wJ.get j hj (Da j e).1 (Da j e).2)
 have pI:av t s.next cr:=⟨Nat.lt_of_lt_of_le DO.lt nt2,by
  obtain⟨low,zz,q1,q2⟩:=DO.dL
  exact⟨low,zz,by simp only[aq.bK,wJ.get s.next DO.lt (by omega) (by omega)];exact q1,q2⟩⟩
 have k0t:ar s.next s t:=⟨by have:=k0u.next;omega,fun j hj=>by rw[wJ.get j (by have:=k0u.next;omega) (by omega) (by omega)];exact k0u.get j hj⟩
 have n0t:=k0t.next
 have dh:=uQ (L:=M) (b:=b) (by omega) hb
 obtain⟨D,hD⟩:∃D,D=(eD M b).1:=⟨_,rfl⟩
 rw[<-hD] at hvt dh eM
 have hNs:(dj M).length=M.length:=by simp[dj]
 have hPs:(fG M).length=M.length:=by simp[fG]
 have sN:∀o∈dj M,Small o:=qt Uk
 have sP:∀o∈fG M,Small o:=sG M
 have Vw:Small (nz (dj M)):= .mk (by simp) (by omega) (by simp) (fun e h=>by cases h) sN (fun e h=>by cases h)
 have sAp:Small (nz (fG M)):= .mk (by simp) (by omega) (by simp) (fun e h=>by cases h) sP (fun e h=>by cases h)
 have s8:Small (.mk 8 0 D [] []):= .mk (by omega) (by simp) (by simp) (fun e h=>by cases h) (fun e h=>by cases h) (fun e h=>by cases h)
 simp-implicitDefEqProofs(disch:=omega)only[ai,aj,ad,Nat.reduceLT,↓reduceIte,hn,h8]
 refine(IW (lib:=cQ) IX (fun _=>True) t v D hvt (by omega) (.slice none 0 0) [] [] .nil aL.nil (by decide) (fun e h=>by cases h)).mono ?_
 rintro _ t8 ⟨c0,rfl,o0,k8⟩
 have o0:dr (fun j=>t.next<=j) t8 c0 (.mk 8 0 D [] []):=o0
 have m8:=k8.next
 simp-implicitDefEqProofs(disch:=omega)only[ai,Nat.reduceLT,↓reduceIte,hn,zO,oQ]
 refine aw ?_
 intro t9 hg9 k9 n9
 simp-implicitDefEqProofs(disch:=omega)only[ai,Nat.reduceLT,Nat.reduceEqDiff,↓reduceIte,hn,il]
 refine aE eO (by decide) hg9 rfl rfl (by simpa using o0.len) o0.ok ?_
 intro t10 hg ai5 abb
 have hg:av t10 t8.next c0:=hg
 obtain⟨g,So⟩:∃g,g=t8.next:=⟨_,rfl⟩
 have k8t:ar t8.next t8 t10:=k9.trans ⟨by omega,fun j hj=>abb j (by omega)⟩
 have m10:=k8t.next
 have Gr:ar t.next t t10:=k8.trans (k8t.weaken m8)
 have q0:=o0.keeps k8t
 have l0:=o0.len
 rw[<-So] at hg
 have GL:=ha.keeps Gr
 have oT:=va.keeps Gr
 have zC:=hy.keeps Gr
 have Dq:=hz.keeps Gr
 have hR1:=hR.keeps bH Gr
 have hM1:=Ue.keeps bH Gr
 have hw1:=KC.keeps Gr
 have fa:=pI.keeps Gr
 have Up:ar s.next s t10:=k0t.trans (Gr.weaken n0t)
 have hg3:t.next<=g/\g<t10.next/\a<t.next/\c<t.next/\s.next<t.next:=by have:=ha.lt;have:=va.lt;have:=pI.lt;have:=hg.lt;omega
 have ux:∀L,zo (.mk 8 0 D [] []) L= .mk 8 0 D [] (b6 [] L):=fun L=>rfl
 clear hg9 k9 abb o0 ha va hy hz hR Ue KC hvt pI wJ
 simp-implicitDefEqProofs(disch:=omega)only[ai,ad,Nat.reduceLT,Nat.reduceEqDiff,↓reduceIte,hn,h6,hw1.aV UK]
 rw[<-So]
 generalize hK:Nb 6 _=K
 have fin:∀(f:aR) (t' :aq) (cs:List Value),f.n=164->f.get 4= .pointer (some ⟨s.next,0,some 6⟩)->f.get 16= .pointer (some ⟨g,0,some 6⟩)->av t' g cs->dr (fun j=>t.next<=j) t' cs (.mk 8 0 D [] (b6 [] (kB M)))->ar s.next s t' ->av t' s.next cr->K .normal f t' :=by
  clear hn h4 h6 h8 h9 dz gX f
  intro f t' cs hn h4 NI hg ho aA ht
  subst hK
  have lo:=av.dQ hg ho.len
  simp-implicitDefEqProofs(disch:=omega)only[ai,Nat.reduceLT,Nat.reduceEqDiff,↓reduceIte,hn,h4,NI,lo]
  refine aE eO (by decide) ht rfl rfl (by simpa using ho.len) ho.ok ?_
  intro t3 nB td ij
  have nB:av t3 s.next cs:=nB
  have lo3:=av.dQ nB ho.len
  simp-implicitDefEqProofs(disch:=omega)only[ai,al,oneOf,Nat.reduceLT,Nat.reduceEqDiff,↓reduceIte,hn,h4,lo3,aW,Tryz.results24]
  rw[gj,eM]
  obtain⟨c2,e2,o2,p2⟩:=gz.put (F:=fun j=>t.next<=j) (s:=s) ho (fun j hj=>⟨by omega,by omega⟩) td ij aA (Nat.le_refl _)
  exact⟨cs,rfl,by injection e2 with e2;have:=congrArg Array.toList e2;rw[List.toList_toArray,List.toList_toArray] at this;rw[this];exact o2,p2⟩
 have sE:∀(k:List UInt8) (cs:List Value),cs.length=5->(Value.string ⟨k.toArray⟩::cs).length=6:=fun k cs h=>by rw[List.length_cons,h]
 obtain⟨A,hA⟩:∃A:Nat->Bool,A=fun j=>decide (j<t10.next):=⟨_,rfl⟩
 have ef:∀j,A j=true->j<t10.next:=by
  intro j h
  rw[hA] at h
  exact of_decide_eq_true h
 have gW:∀j,j<t10.next->A j=true:=fun j h=>by rw[hA];exact decide_eq_true h
 have db:=ar.spare t10 1
 have F1:(spare t10 1).next=t10.next+1:=bT _ _
 have HM:∀k,LA.dB A (some (.pointer (some ⟨a,k,some 6⟩)))=true:=fun k=>LA.bY (A:=A) (i:=a) (gW _ (by omega))
 have hZ:∀k,LA.dB A (some (.pointer (some ⟨c,k,some 6⟩)))=true:=fun k=>LA.bY (A:=A) (i:=c) (gW _ (by omega))
 have ON:∀k,LA.dB A (some (.pointer (some ⟨g,k,some 6⟩)))=true:=fun k=>LA.bY (A:=A) (i:=g) (gW _ (by omega))
 have lg:=av.dQ (hg.keeps db) l0
 have Uh:∀(k:List UInt8) (q:List Value) (o:O) (wb:Nat) (vt e:aq) (q1:e.next=vt.next) (q2:∀j,j≠t10.next->e.heap.get j=vt.heap.get j),dr (fun j=>wb<=j) vt q o->t10.next+1<=wb->k.length<=9223372036854775807->cu (fun _=>True) e (.string ⟨k.toArray⟩::q) (k,o):=fun k q o wb vt e q1 q2 ho hb hk=>⟨q,rfl,(ho.turns (u:= .pointer (some ⟨t10.next,0,none⟩)) (bm.bc q1 q2) (fun j hj e=>by
  have e:some t10.next=some j:=e
  injection e with e;omega)).mono (fun _ _=>trivial),hk⟩
 by_cases c1:M.length=1
 ·obtain⟨l,hl⟩:∃l,M=[l]:=List.length_eq_one_iff.1 c1
  have d1:decide (((M.length:Nat):Int)=1)=true:=decide_eq_true (by omega)
  have eE:kB M=[(bM,sF l.name),(dP,gB l)]:=by rw[hl];rfl
  have hlN:=Uk l (by rw[hl];simp)
  rw[c1] at zC Dq
  have ix:∀{v:Value} {l:List Value} {u:aq},aM u 5 v 1 l->dC Tryz.prog 23 v (.int .i64 0)=some (aT 5 v 0):=fun {v l u} h=>h.indexAddr (P:=Tryz.prog) (k:= .i64) (x:=0) UO eO (by decide) (by decide)
  have rn:dr (kE u.next (fun _=>False) y z) t10 ((LC.drop (0*5)).take 5) (sF l.name):=by
   have:=hR1.row 0 (by rw[hNs,c1];decide)
   simpa [hl,dj] using this
  have rm:dr (kE u.next (fun _=>False) y z) t10 ((MC.drop (0*5)).take 5) (gB l):=by
   have:=hM1.row 0 (by rw[hPs,c1];decide)
   simpa [hl,fG] using this
  have ldy:=(zC.keeps db).aH.eF (P:=Tryz.prog) ua eO (k:=0) (by decide)
  have ldz:∀u,ar t10.next t10 u->aG Tryz.prog u 26 (aT 5 z 0)=some (.agg ((MC.drop (0*5)).take 5).toArray):=fun u h=>(Dq.keeps h).aH.eF (P:=Tryz.prog) ua eO (k:=0) (by decide)
  obtain⟨cn,Dt⟩:∃cn,cn=(LC.drop (0*5)).take 5:=⟨_,rfl⟩
  obtain⟨cm,UM⟩:∃cm,cm=(MC.drop (0*5)).take 5:=⟨_,rfl⟩
  rw[<-Dt] at rn ldy
  rw[<-UM] at rm ldz
  have hle:∀{v:Value} {l:List Value},aM t10 5 v 1 l->LA.dB A (some (aT 5 v 0))=true:=fun {v l} h=>LA.di h gW (by decide)
  have Ug:=hle zC.aH
  have Rv:=hle Dq.aH
  have lay:aG Tryz.prog (spare t10 1) 23 (.pointer (some ⟨a,3,some 6⟩))=some y:=(GL.keeps db).load wu (off:=3) (c:=6) rfl (by simp[mC])
  have lcz:∀u,ar t10.next t10 u->aG Tryz.prog u 23 (.pointer (some ⟨c,3,some 6⟩))=some z:=fun u h=>(oT.keeps h).load wu (off:=3) (c:=6) rfl (by simp[mC])
  rw[d1]
  simp-implicitDefEqProofs(disch:=omega)only[ai]
  refine LB.cF.dy A ef 3 1 (by kernel_rfl) (by kernel_rfl) ?_
  simp-implicitDefEqProofs(disch:=omega)only[ai,aj,bn,bp,Nat.add_one_sub_one,ad,Nat.reduceLT,Nat.reduceEqDiff,↓reduceIte,hn,dz,gX,Ex,HM,ON,lg,q0.self,lay,zC.self,ix zC.aH,Ug,ldy,rn.self]
  refine(iK (lib:=cQ) rfl rfl rfl _ (spare t10 1) bM cn _ (rn.keeps db) (oj hlN)).mono ?_
  rintro _ p1 ⟨r1,rfl,o1,RU⟩
  have mp1:=RU.next
  have e1:=o1.len
  have CI:ar t10.next t10 p1:=db.trans (RU.weaken (by omega))
  refine⟨fun _=>LA.ar.lM ef (RU.weaken (by omega)),?_⟩
  simp-implicitDefEqProofs(disch:=omega)only[ai,aj,bn,bp,Nat.add_one_sub_one,ad,ag,Nat.reduceLT,Nat.reduceEqDiff,↓reduceIte,hn,hZ,lcz _ CI,Dq.self,ix Dq.aH,Rv,ldz _ CI,rm.self]
  refine(iK (lib:=cQ) rfl rfl rfl _ p1 dP cm _ (rm.keeps CI) (mB l)).mono ?_
  rintro _ p2 ⟨r2,rfl,o2,Uq⟩
  have mp2:=Uq.next
  have e2:=o2.len
  have XH:ar t10.next t10 p2:=CI.trans (Uq.weaken (by omega))
  refine⟨fun _=>LA.ar.lM ef (Uq.weaken (by omega)),?_⟩
  try simp-implicitDefEqProofs(disch:=omega)only[aj,tt (a:=(.string ⟨bM.toArray⟩::r1).toArray) (b:=(.string ⟨dP.toArray⟩::r2).toArray) Tryz.underlying24 jx zE Du rfl (sE bM r1 e1) (sE dP r2 e2) (by decide)]
  refine LB.bF (base:=t10.next) (by simp[e1,e2]) (by omega) (Nat.le_refl _) ?_
  intro xs e hx fc kc nc oc
  have Mw:ar t10.next t10 e:=XH.trans kc
  have me:=Mw.next
  have rows:=aL.two (F:=fun _=>True) (s:=e) (sE bM r1 e1) (Uh bM r1 _ _ p2 e nc oc (o1.keeps Uq) (by omega) (by decide)) (sE dP r2 e2) (Uh dP r2 _ _ p2 e nc oc o2 (by omega) (by decide))
  simp-implicitDefEqProofs(disch:=omega)only[ai,aj,bp,Nat.sub_self,ad,Nat.reduceLT,Nat.reduceEqDiff,↓reduceIte,hn]
  refine(CH (lib:=cQ) IX (fun _=>True) e c0 _ ((q0.keeps Mw).mono (fun _ _=>trivial)) s8 xs [(bM,sF l.name),(dP,gB l)] _ hx.aH rows (by simp) (fun e he=>om Uk (by omega) e (by rw[eE];exact he))).mono ?_
  rintro _ p3 ⟨r3,rfl,o3,Mx⟩
  have mp3:=Mx.next
  refine⟨fun _=>LA.ar.lM ef (Mx.weaken (by omega)),?_⟩
  try simp-implicitDefEqProofs(disch:=omega)only[ai,aj,bn,bp,Nat.sub_self,Nat.add_one_sub_one,Nat.reduceSub,oneOf,ad,ag,ah,Nat.reduceLT,Nat.reduceLeDiff,Nat.reduceEqDiff,Nat.reduceAdd,↓reduceIte,hn,h4,h6,h8,h9,dz,gX]
  refine LB.fB eO (by decide) (hg.keeps (Mw.trans (Mx.weaken me))) l0 rfl (by simpa using o3.len) o3.ok (fun h=>absurd rfl h) ?_
  intro p4 RV VC RW
  have RV:av p4 g r3:=RV
  simp-implicitDefEqProofs(disch:=omega)only[bp,Nat.reduceSub]
  have VD:ar t10.next t10 p3:=Mw.trans (Mx.weaken me)
  refine fin _ p4 r3 (by simp only[ae,hn]) (by simp only[aa,↓reduceIte,Nat.reduceEqDiff,h4]) (by simp only[aa,↓reduceIte,Nat.reduceEqDiff]) RV ?_ ?_ ?_
  ·rw[eE,<-ux]
   exact(o3.bc VC RW (by omega)).mono (fun j hj=>by omega)
  ·exact(Up.trans (VD.weaken (by omega))).trans ⟨by omega,fun j hj=>RW j (by omega)⟩
  ·exact(fa.keeps VD).bc VC RW (by omega)
 have d1:decide (((M.length:Nat):Int)=1)=false:=decide_eq_false (by omega)
 rw[d1]
 by_cases c0' :M.length=0
 ·have e0:M=[]:=List.eq_nil_of_length_eq_zero c0'
  have eE:kB M=[]:=by rw[e0];rfl
  have d2:¬((M.length:Nat):Int)>1:=by omega
  simp-implicitDefEqProofs(disch:=omega)only[ai,aj,ad,Nat.reduceLT,Nat.reduceEqDiff,↓reduceIte,undef,hn,h6,hw1.aV UK,eq_false d2]
  exact fin _ t10 c0 (by simp only[ae,hn]) (by simp only[aa,↓reduceIte,Nat.reduceEqDiff,h4]) (by simp only[aa,↓reduceIte,Nat.reduceEqDiff]) hg (by rw[eE];exact q0) Up fa
 have d2:((M.length:Nat):Int)>1:=by omega
 have eE:kB M=if qT M then [(bM,nz (dj M)),(dP,nz (fG M))] else [(bM,nz (dj M))]:=by
  cases Vz:M with
  |nil=>rw[Vz] at c0';exact absurd rfl c0'
  |cons m1 r=>cases r with
   |nil=>rw[Vz] at c1;exact absurd rfl c1
   |cons m2 r=>rfl
 have ft:∀v:Value,dO (fun _=>True) v:=fun v=>dO.wk (fun j hj=>trivial)
 have oA:∀u',ar t10.next t10 u' ->dr (fun _=>True) u' (mC y) (nz (dj M)):=fun u' h=>dr.whole .nil (by rw[hNs];exact(zC.keeps h).aH) .nil (ft _) (ft _) (ft _) ((hR1.keeps bH h).mono bH (fun _ _=>trivial)) aL.nil
 have oC:∀u',ar t10.next t10 u' ->dr (fun _=>True) u' (mC z) (nz (fG M)):=fun u' h=>dr.whole .nil (by rw[hPs];exact(Dq.keeps h).aH) .nil (ft _) (ft _) (ft _) ((hM1.keeps bH h).mono bH (fun _ _=>trivial)) aL.nil
 have lA:=av.dQ (GL.keeps db) rfl
 have lC:∀u',ar t10.next t10 u' ->aG Tryz.prog u' 26 (.pointer (some ⟨c,0,some 6⟩))=some (.agg (mC z).toArray):=fun u' h=>av.dQ (oT.keeps h) rfl
 cases XG:qT M with
 |true=>
  rw[XG] at h9 eE
  have eE:kB M=[(bM,nz (dj M)),(dP,nz (fG M))]:=eE
  simp-implicitDefEqProofs(disch:=omega)only[ai,aj,ad,Nat.reduceLT,Nat.reduceEqDiff,↓reduceIte,hn,h6,h9,hw1.aV UK,eq_true d2]
  refine LB.cF.dy A ef 3 1 (by kernel_rfl) (by kernel_rfl) ?_
  simp-implicitDefEqProofs(disch:=omega)only[ai,aj,bn,bp,Nat.add_one_sub_one,ad,Nat.reduceLT,Nat.reduceEqDiff,↓reduceIte,hn,dz,gX,HM,ON,lg,q0.self,lA,(oA _ db).self]
  refine(iK (lib:=cQ) rfl rfl rfl _ (spare t10 1) bM (mC y) _ (oA _ db) Vw).mono ?_
  rintro _ p1 ⟨r1,rfl,o1,RU⟩
  have mp1:=RU.next
  have e1:=o1.len
  have CI:ar t10.next t10 p1:=db.trans (RU.weaken (by omega))
  refine⟨fun _=>LA.ar.lM ef (RU.weaken (by omega)),?_⟩
  simp-implicitDefEqProofs(disch:=omega)only[ai,aj,bn,bp,Nat.add_one_sub_one,ad,ag,Nat.reduceLT,Nat.reduceEqDiff,↓reduceIte,hn,gX,hZ,lC _ CI,(oC _ CI).self]
  refine(iK (lib:=cQ) rfl rfl rfl _ p1 dP (mC z) _ (oC _ CI) sAp).mono ?_
  rintro _ p2 ⟨r2,rfl,o2,Uq⟩
  have mp2:=Uq.next
  have e2:=o2.len
  have XH:ar t10.next t10 p2:=CI.trans (Uq.weaken (by omega))
  refine⟨fun _=>LA.ar.lM ef (Uq.weaken (by omega)),?_⟩
  try simp-implicitDefEqProofs(disch:=omega)only[aj,tt (a:=(.string ⟨bM.toArray⟩::r1).toArray) (b:=(.string ⟨dP.toArray⟩::r2).toArray) Tryz.underlying24 jx zE Du rfl (sE bM r1 e1) (sE dP r2 e2) (by decide)]
  refine LB.bF (base:=t10.next) (by simp[e1,e2]) (by omega) (Nat.le_refl _) ?_
  intro xs e hx fc kc nc oc
  have Mw:ar t10.next t10 e:=XH.trans kc
  have me:=Mw.next
  have rows:=aL.two (F:=fun _=>True) (s:=e) (sE bM r1 e1) (Uh bM r1 _ _ p2 e nc oc (o1.keeps Uq) (by omega) (by decide)) (sE dP r2 e2) (Uh dP r2 _ _ p2 e nc oc o2 (by omega) (by decide))
  simp-implicitDefEqProofs(disch:=omega)only[ai,aj,bp,Nat.sub_self,ad,Nat.reduceLT,Nat.reduceEqDiff,↓reduceIte,hn]
  refine(CH (lib:=cQ) IX (fun _=>True) e c0 _ ((q0.keeps Mw).mono (fun _ _=>trivial)) s8 xs [(bM,nz (dj M)),(dP,nz (fG M))] _ hx.aH rows (by simp) (fun e he=>om Uk (by omega) e (by rw[eE];exact he))).mono ?_
  rintro _ p3 ⟨r3,rfl,o3,Mx⟩
  have mp3:=Mx.next
  refine⟨fun _=>LA.ar.lM ef (Mx.weaken (by omega)),?_⟩
  try simp-implicitDefEqProofs(disch:=omega)only[ai,aj,bn,bp,Nat.sub_self,Nat.add_one_sub_one,Nat.reduceSub,oneOf,ad,ag,ah,Nat.reduceLT,Nat.reduceLeDiff,Nat.reduceEqDiff,Nat.reduceAdd,↓reduceIte,hn,h4,h6,h8,h9,dz,gX]
  refine LB.fB eO (by decide) (hg.keeps (Mw.trans (Mx.weaken me))) l0 rfl (by simpa using o3.len) o3.ok (fun h=>absurd rfl h) ?_
  intro p4 RV VC RW
  have RV:av p4 g r3:=RV
  simp-implicitDefEqProofs(disch:=omega)only[bp,Nat.reduceSub]
  have VD:ar t10.next t10 p3:=Mw.trans (Mx.weaken me)
  refine fin _ p4 r3 (by simp only[ae,hn]) (by simp only[aa,↓reduceIte,Nat.reduceEqDiff,h4]) (by simp only[aa,↓reduceIte,Nat.reduceEqDiff]) RV ?_ ?_ ?_
  ·rw[eE,<-ux]
   exact(o3.bc VC RW (by omega)).mono (fun j hj=>by omega)
  ·exact(Up.trans (VD.weaken (by omega))).trans ⟨by omega,fun j hj=>RW j (by omega)⟩
  ·exact(fa.keeps VD).bc VC RW (by omega)
 |false=>
  rw[XG] at h9 eE
  have eE:kB M=[(bM,nz (dj M))]:=eE
  simp-implicitDefEqProofs(disch:=omega)only[ai,aj,ad,Nat.reduceLT,Nat.reduceEqDiff,↓reduceIte,hn,h6,h9,hw1.aV UK,eq_true d2]
  refine LB.cF.dy A ef 2 1 (by kernel_rfl) (by kernel_rfl) ?_
  simp-implicitDefEqProofs(disch:=omega)only[ai,aj,bn,bp,Nat.add_one_sub_one,ad,ag,Nat.reduceLT,Nat.reduceEqDiff,↓reduceIte,hn,dz,HM,ON,lg,q0.self,lA,(oA _ db).self]
  refine(iK (lib:=cQ) rfl rfl rfl _ (spare t10 1) bM (mC y) _ (oA _ db) Vw).mono ?_
  rintro _ p1 ⟨r1,rfl,o1,RU⟩
  have mp1:=RU.next
  have e1:=o1.len
  have CI:ar t10.next t10 p1:=db.trans (RU.weaken (by omega))
  refine⟨fun _=>LA.ar.lM ef (RU.weaken (by omega)),?_⟩
  simp-implicitDefEqProofs(disch:=omega)only[dY (cs:=(.string ⟨bM.toArray⟩::r1).toArray) Tryz.underlying24 jx zE Du rfl (sE bM r1 e1) (by decide)]
  refine LB.bF (base:=t10.next) (by simp[e1]) (by omega) (Nat.le_refl _) ?_
  intro xs e hx fc kc nc oc
  have Mw:ar t10.next t10 e:=CI.trans kc
  have me:=Mw.next
  have rows:=aL.one (F:=fun _=>True) (s:=e) (sE bM r1 e1) (Uh bM r1 _ _ p1 e nc oc o1 (by omega) (by decide))
  simp-implicitDefEqProofs(disch:=omega)only[ai,aj,bp,Nat.sub_self,ad,Nat.reduceLT,Nat.reduceEqDiff,↓reduceIte,hn]
  refine(CH (lib:=cQ) IX (fun _=>True) e c0 _ ((q0.keeps Mw).mono (fun _ _=>trivial)) s8 xs [(bM,nz (dj M))] _ hx.aH rows (by simp) (fun e he=>om Uk (by omega) e (by rw[eE];exact he))).mono ?_
  rintro _ p3 ⟨r3,rfl,o3,Mx⟩
  have mp3:=Mx.next
  refine⟨fun _=>LA.ar.lM ef (Mx.weaken (by omega)),?_⟩
  try simp-implicitDefEqProofs(disch:=omega)only[ai,aj,bn,bp,Nat.sub_self,Nat.add_one_sub_one,Nat.reduceSub,oneOf,ad,ag,ah,Nat.reduceLT,Nat.reduceLeDiff,Nat.reduceEqDiff,Nat.reduceAdd,↓reduceIte,hn,h4,h6,h8,h9,dz,gX]
  refine LB.fB eO (by decide) (hg.keeps (Mw.trans (Mx.weaken me))) l0 rfl (by simpa using o3.len) o3.ok (fun h=>absurd rfl h) ?_
  intro p4 RV VC RW
  have RV:av p4 g r3:=RV
  simp-implicitDefEqProofs(disch:=omega)only[bp,Nat.reduceSub]
  have VD:ar t10.next t10 p3:=Mw.trans (Mx.weaken me)
  refine fin _ p4 r3 (by simp only[ae,hn]) (by simp only[aa,↓reduceIte,Nat.reduceEqDiff,h4]) (by simp only[aa,↓reduceIte,Nat.reduceEqDiff]) RV ?_ ?_ ?_
  ·rw[eE,<-ux]
   exact(o3.bc VC RW (by omega)).mono (fun j hj=>by omega)
  ·exact(Up.trans (VD.weaken (by omega))).trans ⟨by omega,fun j hj=>RW j (by omega)⟩
  ·exact(fa.keeps VD).bc VC RW (by omega)
end Go.Proofs.YtdfjfncifneocaaGreat
set_option linter.unusedSimpArgs false
set_option linter.unusedVariables false
set_option maxRecDepth 100000
namespace Go.Proofs.YtdfjfncifneocaaGreat
open Go.Cl Go.Cl.Pr Go.Cl.Ch
theorem ET {P:Program}{eS eI:TypeId}(hS:cw P eS=some false)(hI:cw P eI=some false){s:aq}{v:Value}{L:List Lk}(h:aM s 5 v L.length (kD L)){i:Nat}(hi:i<L.length):
  aG P s eI (bR (aT 5 v i) 0)=some (.int .i64 L[i].p)/\aG P s eI (bR (aT 5 v i) 1)=some (.int .i64 L[i].co)/\aG P s eI (bR (aT 5 v i) 2)=some (.int .i64 L[i].cl)/\aG P s eS (bR (aT 5 v i) 3)=some (.string ⟨L[i].name.toArray⟩)/\aG P s eI (bR (aT 5 v i) 4)=some (.int .i64 L[i].early):=by
 refine⟨?_,?_,?_,?_,?_⟩
 ·rw[h.eC (P:=P) hI hi (j:=0) (by omega),lG hi 0 (by decide)];rfl
 ·rw[h.eC (P:=P) hI hi (j:=1) (by omega),lG hi 1 (by decide)];rfl
 ·rw[h.eC (P:=P) hI hi (j:=2) (by omega),lG hi 2 (by decide)];rfl
 ·rw[h.eC (P:=P) hS hi (j:=3) (by omega),lG hi 3 (by decide)];rfl
 ·rw[h.eC (P:=P) hI hi (j:=4) (by omega),lG hi 4 (by decide)];rfl
theorem VE {s:aq}{v:Value}{n:Nat}{l:List Value}(h:aM s 5 v n l){k:Nat}(hk:k<n):az Tryz.prog 68 (aT 5 v k) 2=some (bR (aT 5 v k) 4)/\az Tryz.prog 66 (bR (aT 5 v k) 0) 1=some (bR (aT 5 v k) 1)/\az Tryz.prog 66 (bR (aT 5 v k) 0) 2=some (bR (aT 5 v k) 2):=by
 obtain⟨i,off,c,e1,_⟩:=h.cells hk
 rw[e1]
 refine⟨?_,?_,?_⟩
 ·unfold az;rw[Tryz.underlying68];simp[bR,cG]
 ·unfold az;rw[Tryz.underlying66];simp[bR,cG]
 ·unfold az;rw[Tryz.underlying66];simp[bR,cG]
theorem bLk (a b c:Int):dM Tryz.prog 56 [(0,.int .i64 a),(1,.int .i64 b),(2,.int .i64 c)]=some (i3 a b c):=by kernel_rfl
theorem afg (l:Lk):dM Tryz.prog 58 [(0,i3 l.p l.co l.cl),(1,.string ⟨l.name.toArray⟩),(2,.int .i64 l.early)]=some (kV l):=by kernel_rfl
theorem XI (l:Lk):bX (kV l) (kV l)=true:=by simp[bX,gp,cW,Lk.cells]
set_option maxHeartbeats 4000000 in
theorem Gs (s:aq)(v:Value)(L:List Lk)(hv:aM s 5 v L.length (kD L))(hT:L.length<=1000):
  Runs Tryz.prog cQ 23 [v] s fun y s' =>Own s' 5 y L.length (kD L)/\aN s.next y/\ar s.next s s' :=by
 refine Runs.enter 45 Tryz.func23 rfl rfl rfl rfl ?_
 intro f hn hf
 have h0:f.get 0=v:=hf 0
 clear hf
 have UK:=Tryz.underlying31
 have UR:=Tryz.underlying35
 have Ss:cE Tryz.prog 58=some (kV ⟨0,0,0,[],0⟩):=by kernel_rfl
 have KP:cH (kV ⟨0,0,0,[],0⟩)=true:=by kernel_rfl
 have Ry:eW Tryz.prog 58=some 48:=by kernel_rfl
 simp-implicitDefEqProofs(disch:=omega)only[ai,Nat.reduceLT,↓reduceIte,hn]
 refine Comes.eY (fun z f s6=>∃(i:Nat) (y:Value),z=L.length-i/\i<=L.length/\Own s6 5 y i (kD (L.take i))/\aN s.next y/\ar s.next s s6/\f.n=45/\f.get 0=v/\f.get 3=y/\f.get 4= .int .i64 (i:Nat))
  ⟨0,.slice none 0 0,rfl,by omega,by rw[List.take_zero];exact .nil,aN.nil _,ar.refl _ _,by simp only[ae,hn],by simp only[aa,↓reduceIte,Nat.reduceEqDiff,h0],by simp only[aa,↓reduceIte,Nat.reduceEqDiff],by simp only[aa,↓reduceIte];rfl⟩ ?_
 clear hn h0 f
 rintro z f s6 ⟨i,y,rfl,hi,hy,iQ,dF,hn,h0,h3,h4⟩
 have WI:=hv.keeps dF
 have F3:=dF.next
 by_cases aP:i<L.length
 ·have d1:(i:Int)<(L.length:Int):=by omega
  simp-implicitDefEqProofs(disch:=omega)only[ai,ad,Nat.reduceLT,Nat.reduceEqDiff,↓reduceIte,hn,h0,h4,WI.aV UR,eq_true d1]
  obtain⟨A,hA⟩:∃A:Nat->Bool,A=fun j=>decide (j<s6.next):=⟨_,rfl⟩
  have ef:∀j,A j=true->j<s6.next:=by
   intro j h
   rw[hA] at h
   exact of_decide_eq_true h
  have gW:∀j,j<s6.next->A j=true:=fun j h=>by rw[hA];exact decide_eq_true h
  refine LB.cF.dy A ef 0 1 (by kernel_rfl) (by kernel_rfl) ?_
  have db:=ar.spare s6 1
  have F1:(spare s6 1).next=s6.next+1:=bT _ _
  have Mr:=WI.keeps db
  have pe:=Mr.indexAddr (P:=Tryz.prog) (k:= .i64) (x:=(i:Int)) UR ue (by omega) (by omega)
  rw[Int.toNat_natCast] at pe
  obtain⟨q0,q1,q2⟩:=RR Mr aP
  obtain⟨q3,q4,q5⟩:=VE Mr aP
  obtain⟨pT,nF,oP,N6,Yk⟩:=ET (P:=Tryz.prog) mW cj Mr aP
  simp-implicitDefEqProofs(disch:=omega)only[ai,bn,bp,ag,Nat.reduceLT,Nat.reduceEqDiff,↓reduceIte,hn,h0,h3,h4,hv.self,hy.self,fA,pe,q0,q1,q2,q3,q4,q5,LA.gy WI gW aP,pT,nF,oP,N6,Yk,bLk,afg,Tb,XI,dY (cs:=L[i].cells.toArray) UK oh Ss KP rfl rfl (by decide)]
  refine LB.bF (base:=s6.next) (by rfl) (by omega) (Nat.le_refl _) ?_
  intro bs s7 pS fc fH kA jV
  have RX:ar s6.next s6 s7:=db.trans ⟨fH.next,fun j hj=>fH.get j (by omega)⟩
  have aja:=RX.next
  simp-implicitDefEqProofs(disch:=omega)only[ai,bp,ad,Nat.reduceLT,Nat.reduceEqDiff,↓reduceIte,hn]
  refine LB.cZ UK UK (.inl ⟨_,rfl⟩) oh Ry Ss rfl (hy.keeps RX) pS.aH.src rfl (by decide) rfl (by omega) (by omega) (base:=s.next) iQ (by omega) (fun h=>absurd rfl h) (fun j hj=>by have:=ef j hj;omega) ?_
  intro y' s8 hy8 hF8 afh nJ
  have e8:kD (L.take (i+1))=kD (L.take i)++L[i].cells:=by
   rw[List.take_succ_eq_append_getElem aP,Ky];simp[kD]
  simp-implicitDefEqProofs(disch:=omega)only[ai,bn,bp,Nat.reduceSub,Nat.reduceLT,Nat.reduceEqDiff,↓reduceIte,hn,h4,hy8.self,aD]
  refine au (L.length-(i+1)) (by omega) ⟨i+1,y',rfl,by omega,by rw[e8];exact hy8,hF8,(dF.trans (RX.weaken F3)).trans (afh.keeps iQ (by omega)),by simp only[ae,hn],by simp only[aa,↓reduceIte,Nat.reduceEqDiff,h0],by simp only[aa,↓reduceIte,Nat.reduceEqDiff],by simp only[aa,↓reduceIte];rfl⟩
 ·obtain rfl:i=L.length:=by omega
  rw[List.take_length] at hy
  have d1:¬((L.length:Nat):Int)<((L.length:Nat):Int):=by omega
  simp-implicitDefEqProofs(disch:=omega)only[ai,al,oneOf,ad,Nat.reduceLT,Nat.reduceEqDiff,↓reduceIte,hn,h0,h3,h4,WI.aV UR,eq_false d1,Tryz.results23]
  exact⟨hy,iQ,dF⟩
def RY (s:aq)(p:Prop)(v:Value)(s' :aq):Prop:=s' =s/\∃t:Bool,v= .bool t/\(t=true->p)
set_option maxHeartbeats 4000000 in
theorem Gt (s:aq)(v:Value)(L:List Lk)(hv:aM s 5 v L.length (kD L))(hN:∀l∈L,l.name.length<9223372036854775808):
  Runs Tryz.prog cQ 21 [v] s (RY s (L.length<=12)):=by
 obtain⟨QQ,gj⟩:∃QQ:Value->aq->Prop,QQ=RY s (L.length<=12):=⟨_,rfl⟩
 rw[<-gj]
 refine Runs.enter 38 Tryz.func21 rfl rfl rfl rfl ?_
 intro f hn hf
 have h0:f.get 0=v:=hf 0
 clear hf
 have UR:=Tryz.underlying35
 by_cases c12:L.length<=12
 rotate_left
 ·have d1:((L.length:Nat):Int)>12:=by omega
  simp-implicitDefEqProofs(disch:=omega)only[ai,al,oneOf,ad,Nat.reduceLT,Nat.reduceEqDiff,↓reduceIte,hn,h0,hv.aV UR,eq_true d1,Tryz.results21]
  rw[gj];exact⟨rfl,false,rfl,fun h=>by cases h⟩
 have d1:¬((L.length:Nat):Int)>12:=by omega
 have no:QQ (.bool false) s:=by rw[gj];exact⟨rfl,false,rfl,fun h=>by cases h⟩
 have yes:QQ (.bool true) s:=by rw[gj];exact⟨rfl,true,rfl,fun _=>c12⟩
 simp-implicitDefEqProofs(disch:=omega)only[ai,ad,Nat.reduceLT,Nat.reduceEqDiff,↓reduceIte,hn,h0,hv.aV UR,eq_false d1]
 refine Comes.eY (fun z f t=>∃(i:Nat),z=L.length-i/\i<=L.length/\t=s/\f.n=38/\f.get 0=v/\f.get 3= .int .i64 (i:Nat))
  ⟨0,rfl,by omega,rfl,by simp only[ae,hn],by simp only[aa,↓reduceIte,Nat.reduceEqDiff,h0],by simp only[aa,↓reduceIte];rfl⟩ ?_
 clear hn h0 f
 rintro z f t ⟨i,rfl,hi,rfl,hn,h0,h3⟩
 by_cases aP:i<L.length
 rotate_left
 ·obtain rfl:i=L.length:=by omega
  have d2:¬((L.length:Nat):Int)<((L.length:Nat):Int):=by omega
  simp-implicitDefEqProofs(disch:=omega)only[ai,al,oneOf,ad,Nat.reduceLT,Nat.reduceEqDiff,↓reduceIte,hn,h0,h3,hv.aV UR,eq_false d2,Tryz.results21]
  exact yes
 have d2:(i:Int)<(L.length:Int):=by omega
 have pe:=hv.indexAddr (P:=Tryz.prog) (k:= .i64) (x:=(i:Int)) UR ue (by omega) (by omega)
 rw[Int.toNat_natCast] at pe
 obtain⟨q0,q1,q2⟩:=RR hv aP
 obtain⟨q3,q4,q5⟩:=VE hv aP
 obtain⟨pT,nF,oP,N6,Yk⟩:=ET (P:=Tryz.prog) mW cj hv aP
 have I1:=hN _ (List.getElem_mem aP)
 have uT:=qa (P:=Tryz.prog) (s:=t) Tryz.underlying9 (a:=L[i].name)
 by_cases e1:((L[i].name.length:Nat):Int)>100
 ·simp-implicitDefEqProofs(disch:=omega)only[ai,aj,al,oneOf,ad,Nat.reduceLT,Nat.reduceEqDiff,↓reduceIte,undef,hn,h0,h3,hv.aV UR,eq_true d2,pe,q1,N6,uT,eq_true e1,Tryz.results21]
  exact no
 by_cases e2:L[i].co>100
 ·simp-implicitDefEqProofs(disch:=omega)only[ai,aj,al,oneOf,ad,Nat.reduceLT,Nat.reduceEqDiff,↓reduceIte,undef,hn,h0,h3,hv.aV UR,eq_true d2,pe,q0,q1,q4,nF,N6,uT,eq_false e1,eq_true e2,Tryz.results21]
  exact no
 by_cases e3:L[i].cl>5000
 ·simp-implicitDefEqProofs(disch:=omega)only[ai,aj,al,oneOf,ad,Nat.reduceLT,Nat.reduceEqDiff,↓reduceIte,hn,h0,h3,hv.aV UR,eq_true d2,pe,q0,q1,q4,q5,nF,oP,N6,uT,eq_false e1,eq_false e2,eq_true e3,Tryz.results21]
  exact no
 simp-implicitDefEqProofs(disch:=omega)only[ai,aj,ad,Nat.reduceLT,Nat.reduceEqDiff,↓reduceIte,hn,h0,h3,hv.aV UR,eq_true d2,pe,q0,q1,q4,q5,nF,oP,N6,uT,eq_false e1,eq_false e2,eq_false e3,aD]
 exact au (L.length-(i+1)) (by omega) ⟨i+1,rfl,by omega,rfl,by simp only[ae,hn],by simp only[aa,↓reduceIte,Nat.reduceEqDiff,h0],by simp only[aa,↓reduceIte];rfl⟩
end Go.Proofs.YtdfjfncifneocaaGreat
