import Derived.Test.YtdfjfncifneocaaGreatBoD
import Derived.Test.YtdfjfncifneocaaGreatNfY
open Nat renaming reduceLT->QS,reduceEqDiff->WP
set_option linter.unusedSimpArgs false
set_option linter.unusedVariables false
set_option maxRecDepth 100000
namespace Go.Proofs.YtdfjfncifneocaaGreat
open Go.Cl Go.Cl.Pr Go.Cl.Ch Go.Cl.Hx Go.Cl.B85
set_option maxHeartbeats 8000000 in
theorem xw (s:aq)(x y:Value)(b:List UInt8)(L:List Lk)(hx:aN s 1 x b.length (ofBytes b))(hy:aN s 5 y L.length (mP L))(hb:b.length<=400)(hL:L.length<=1000)(N5:∀l∈L.map fG,l.p=1/\l.co=1/\l.cl=1):
  Runs Tryz.prog eC 22 [x,y] s (aay s (EM L b)):=by
 obtain⟨QQ,gp⟩:∃QQ:Value->aq->Prop,QQ=aay s (EM L b):=⟨_,rfl⟩
 rw[<-gp]
 refine Runs.enter 76 Tryz.func22 rfl rfl rfl rfl ?_
 intro f hn hf
 have h0:f.get 0=x:=hf 0
 have h1:f.get 1=y:=hf 1
 clear hf
 have UK:=Tryz.underlying31
 simp-implicitDefEqProofs(disch:=omega)only[aj,↓reduceIte,zO,xB]
 refine ax ?_
 intro s1 eO bm iY
 have mO:cU.length+1=6:=rfl
 have n1:=bm.next
 simp-implicitDefEqProofs(disch:=omega)only[aj,ak,ad,QS,WP,↓reduceIte,hn,h1,mO]
 refine(Y9 s1 y L.length (mP L) (hy.keeps bm) (by omega) (abZ L)).mono ?_
 rintro w s2 ⟨hw,xC,aU⟩
 have n2:=aU.next
 have dZ:=eO.keeps aU
 simp-implicitDefEqProofs(disch:=omega)only[aj,ad,QS,↓reduceIte,hn,hw.aG.bh UK]
 refine Comes.bK (fun q f t=>∃(i:Nat),q=L.length-i/\i<=L.length/\Own t 5 w L.length (mP (gQ L i))/\(∀l∈L.take i,okL (fG l))/\av t s.next cU/\ar s1.next s1 t/\f.n=76/\f.get 0=x/\f.get 4= .pointer (some ⟨s.next,0,some 6⟩)/\f.get 6=w/\f.get 14= .int .i64 (L.length:Nat)/\f.get 15= .int .i64 (i:Nat))
  (fun q f t=>(q= .ret/\(¬∀l∈L.map fG,okL l)/\av t s.next cU/\ar s.next s t/\f.n=76/\f.get 4= .pointer (some ⟨s.next,0,some 6⟩)/\f.get 5= .int .i64 1)\/(q= .exit 0/\(∀l∈L.map fG,okL l)/\Own t 5 w L.length (mP (L.map fG))/\av t s.next cU/\ar s1.next s1 t/\f.n=76/\f.get 0=x/\f.get 4= .pointer (some ⟨s.next,0,some 6⟩)/\f.get 6=w))
  ⟨0,rfl,by omega,by rw[Sp];exact hw,by simp,dZ,aU,by simp only[ag,hn],by simp only[aa,↓reduceIte,WP,h0],by simp only[aa,↓reduceIte,WP],by simp only[aa,↓reduceIte,WP],by simp only[aa,↓reduceIte,WP],by simp only[aa,↓reduceIte];rfl⟩ ?_ ?_
 ·clear hn h0 h1 f
  rintro Q hQ q f t ⟨i,rfl,hi,hw,dF,ht,aD,hn,h0,h4,h6,tq,oU⟩
  have nt:=aD.next
  by_cases bc:i<L.length
  rotate_left
  ·obtain rfl:i=L.length:=by omega
   have d1:¬((L.length:Nat):Int)<((L.length:Nat):Int):=by omega
   rw[List.take_length] at dF
   rw[Wp] at hw
   simp-implicitDefEqProofs(disch:=omega)only[aj,QS,↓reduceIte,hn,tq,oU,eq_false d1]
   exact hQ _ _ _ (.inr ⟨rfl,fun l hl=>by obtain⟨a,ha,rfl⟩:=List.mem_map.1 hl;exact dF a ha,hw,ht,aD,by simp only[ag,hn],by simp only[aa,↓reduceIte,WP,h0],by simp only[aa,↓reduceIte,WP,h4],by simp only[aa,↓reduceIte,WP,h6]⟩)
  have d1:(i:Int)<(L.length:Int):=by omega
  have ln:=hw.aG.indexAddr (P:=Tryz.prog) (k:= .i64) (x:=(i:Int)) UK cV (by omega) (by omega)
  rw[Int.toNat_natCast] at ln
  have HW:=Lq L i hi
  have hg:(gQ L i)[i]?=some L[i]:=Y8 bc
  have xK:i<(gQ L i).length:=by omega
  have Zw:(gQ L i)[i]=L[i]:=by rw[List.getElem?_eq_getElem xK] at hg;exact Option.some.inj hg
  have yj:=u7 xK
  rw[Zw] at yj
  obtain⟨l,hl⟩:∃l,l=L[i]:=⟨_,rfl⟩
  rw[<-hl] at yj Zw
  have LK:=ahb hw.aG bc
  have jQ:aR Tryz.prog t 56 (ft (bJ 5 w i) 0)=some (i3 l.p l.co l.cl):=by
   have:=hw.aG.wM (P:=Tryz.prog) zz qS bc (j:=0) (by decide)
   rw[this]
   have e2:((mP (gQ L i)).drop (i*5+0)).take 3=(((mP (gQ L i)).drop (i*5)).take 5).take 3:=by rw[List.take_take,Nat.add_zero];rfl
   rw[e2,yj];rfl
  have bz:cE Tryz.prog 56 []=some (i3 0 0 0):=by kernel_rfl
  have bo:cE Tryz.prog 26 []=some (.agg cU.toArray):=by kernel_rfl
  have vp:cf (ft (bJ 5 w i) 0) (ft (bJ 5 w i) 0)=true:=CL _ _ _ _
  simp-implicitDefEqProofs(disch:=omega)only[aj,ae,QS,WP,↓reduceIte,hn,h6,tq,oU,eq_true d1,ln,LK,jQ,bz,alG]
  generalize hK:Fj Tryz.prog eC (Code.seq (Code.region _ _ _) (Code.cond _ _ _)) _=K
  have hfs:=Sq bc
  rw[<-hl] at hfs
  have tH:=Qa xK (fG l)
  rw[<-hfs] at tH
  have go:∀(f:aT) (t' :aq),f.n=76->f.get 0=x->f.get 4= .pointer (some ⟨s.next,0,some 6⟩)->f.get 6=w->f.get 7= .int .i64 (i:Nat)->f.get 14= .int .i64 (L.length:Nat)->f.get 15= .int .i64 (i:Nat)->Own t' 5 w L.length (mP (gQ L (i+1)))->av t' s.next cU->ar s1.next s1 t' ->K .normal f t' :=by
   clear hn h0 h4 h6 tq oU f hw ht aD ln LK jQ yj vp
   intro f t' hn h0 h4 h6 h7 tq oU hw ht aD
   subst hK
   have nt:=aD.next
   have ln:=hw.aG.indexAddr (P:=Tryz.prog) (k:= .i64) (x:=(i:Int)) UK cV (by omega) (by omega)
   rw[Int.toNat_natCast] at ln
   have HW:=Lq L (i+1) bc
   have afX:i<(gQ L (i+1)).length:=by omega
   have alV:(gQ L (i+1))[i]=fG l:=by simp[hfs]
   have yj:=u7 afX
   rw[alV] at yj
   have LK:=ahb hw.aG bc
   have jQ:∀t2,ar t'.next t' t2->aR Tryz.prog t2 56 (ft (bJ 5 w i) 0)=some (i3 (fG l).p (fG l).co (fG l).cl):=fun t2 h2=>by
    have:=(hw.keeps h2).aG.wM (P:=Tryz.prog) zz qS bc (j:=0) (by decide)
    rw[this]
    have e2:((mP (gQ L (i+1))).drop (i*5+0)).take 3=(((mP (gQ L (i+1))).drop (i*5)).take 5).take 3:=by rw[List.take_take,Nat.add_zero];rfl
    rw[e2,yj];rfl
   have iF:=hw.aG.fm (P:=Tryz.prog) lB cV bc
   rw[yj] at iF
   simp-implicitDefEqProofs(disch:=omega)only[aj,ak,ad,QS,WP,↓reduceIte,hn,h6,h7,ln,iF]
   refine(Gs t' (fG l)).mono ?_
   rintro _ t2 ⟨rfl,k2⟩
   have m2:=k2.next
   by_cases c1:(fG l).name∈mG
   rotate_left
   ·rw[decide_eq_false c1]
    simp-implicitDefEqProofs(disch:=omega)only[aj,ak,ae,QS,WP,↓reduceIte,undef,hn,h4,bo]
    refine aA iH (by decide) (ht.keeps k2) rfl rfl rfl rfl ?_
    intro t3 jt mm ij
    have jt:av t3 s.next cU:=jt
    simp-implicitDefEqProofs(disch:=omega)only[aj,QS,↓reduceIte,hn]
    exact hQ _ _ _ (.inl ⟨rfl,fun dN=>c1 (dN _ (List.mem_map.2 ⟨L[i],List.getElem_mem bc,by rw[hl]⟩)).1,jt,(bm.trans ((aD.trans (k2.weaken nt)).weaken n1)).trans ⟨by omega,fun j hj=>ij j (by omega)⟩,by simp only[ag,hn],by simp only[aa,↓reduceIte,WP,h4],by simp only[aa,↓reduceIte]⟩)
   rw[decide_eq_true c1]
   simp-implicitDefEqProofs(disch:=omega)only[aj,ak,ad,QS,WP,↓reduceIte,hn,h6,h7,ln,LK,jQ _ k2]
   refine(wv (lib:=eC) rfl t2 (fG l).p (fG l).co (fG l).cl).mono ?_
   rintro _ t3 ⟨rfl,k3⟩
   have m3:=k3.next
   have k23:ar t'.next t' t3:=k2.trans (k3.weaken m2)
   by_cases c2:ri (fG l).p (fG l).co (fG l).cl
   rotate_left
   ·rw[decide_eq_false c2]
    simp-implicitDefEqProofs(disch:=omega)only[aj,ak,ae,QS,WP,↓reduceIte,hn,h4,bo]
    refine aA iH (by decide) (ht.keeps k23) rfl rfl rfl rfl ?_
    intro t4 ie u0 ru
    have ie:av t4 s.next cU:=ie
    simp-implicitDefEqProofs(disch:=omega)only[aj,QS,↓reduceIte,hn]
    exact hQ _ _ _ (.inl ⟨rfl,fun dN=>c2 (dN _ (List.mem_map.2 ⟨L[i],List.getElem_mem bc,by rw[hl]⟩)).2,ie,(bm.trans ((aD.trans (k23.weaken nt)).weaken n1)).trans ⟨by omega,fun j hj=>ru j (by omega)⟩,by simp only[ag,hn],by simp only[aa,↓reduceIte,WP,h4],by simp only[aa,↓reduceIte]⟩)
   rw[decide_eq_true c2]
   simp-implicitDefEqProofs(disch:=omega)only[aj,ak,QS,WP,↓reduceIte,hn,oU,aB]
   refine au (L.length-(i+1)) (by omega) ⟨i+1,rfl,by omega,hw.keeps k23,fun a ha=> ?_,ht.keeps k23,aD.trans (k23.weaken nt),by simp only[ag,hn],by simp only[aa,↓reduceIte,WP,h0],by simp only[aa,↓reduceIte,WP,h4],by simp only[aa,↓reduceIte,WP,h6],by simp only[aa,↓reduceIte,WP,tq],by simp only[aa,↓reduceIte];rfl⟩
   rw[List.take_succ_eq_append_getElem bc,<-hl] at ha
   rcases List.mem_append.1 ha with ha|ha
   ·exact dF a ha
   ·rw[List.mem_singleton.1 ha];exact⟨c1,c2⟩
  by_cases cz:l.p=0/\l.co=0/\l.cl=0
  ·have Ga:fG l={l with p:=1,co:=1,cl:=1}:=by unfold fG;rw[if_pos cz]
   simp-implicitDefEqProofs(disch:=omega)only[aj,ak,ad,QS,WP,↓reduceIte,hn,h6,decide_eq_true cz]
   refine(RF t).mono ?_
   rintro _ t2 ⟨rfl,k2⟩
   have alW:=(hw.keeps k2).aG.indexAddr (P:=Tryz.prog) (k:= .i64) (x:=(i:Int)) UK cV (by omega) (by omega)
   rw[Int.toNat_natCast] at alW
   simp-implicitDefEqProofs(disch:=omega)only[aj,QS,WP,↓reduceIte,hn,ln,LK]
   obtain⟨t3,e3,JV,LS⟩:=(hw.keeps k2).aeU (P:=Tryz.prog) (e:=56) qS (by decide) bc (j:=0) (by decide) (w:=i3 1 1 1) (vs:=l3 1 1 1) rfl rfl rfl (p:=ft (bJ 5 w i) 0) (fun a o c h=>by rw[h];rfl)
   have JV:Own t3 5 w L.length (mP (gQ L (i+1))):=by
    have:=Wq xK 1 1 1
    rw[Zw,<-Ga,<-hfs] at this
    rw[<-this];exact JV
   simp-implicitDefEqProofs(disch:=omega)only[aj,e3]
   exact go _ _ (by simp only[ag,hn]) (by simp only[aa,↓reduceIte,WP,h0]) (by simp only[aa,↓reduceIte,WP,h4]) (by simp only[aa,↓reduceIte,WP,h6]) (by simp only[aa,↓reduceIte,WP]) (by simp only[aa,↓reduceIte,WP,tq]) (by simp only[aa,↓reduceIte,WP,oU]) JV ((ht.keeps k2).turns LS (fun e=>by have:=xC _ e;omega)) ((aD.trans (k2.weaken nt)).trans (LS.keeps xC (by have:=k2.next;omega)))
  ·have Ga:fG l=l:=by unfold fG;rw[if_neg cz]
   have vA:gQ L (i+1)=gQ L i:=by
    rw[hfs,Ga,<-Zw];exact List.set_getElem_self xK
   simp-implicitDefEqProofs(disch:=omega)only[aj,decide_eq_false cz]
   exact go _ _ (by simp only[ag,hn]) (by simp only[aa,↓reduceIte,WP,h0]) (by simp only[aa,↓reduceIte,WP,h4]) (by simp only[aa,↓reduceIte,WP,h6]) (by simp only[aa,↓reduceIte,WP]) (by simp only[aa,↓reduceIte,WP,tq]) (by simp only[aa,↓reduceIte,WP,oU]) (by rw[vA];exact hw) ht aD
 clear hn h0 h1 f
 rintro _ f t (⟨rfl,lQ,ht,aD,hn,h4,h5⟩|⟨rfl,dF,hw,ht,aD,hn,h0,h4,h6⟩)
 ·have e:EM L b=(O.none,1):=by unfold EM;rw[if_pos lQ]
  have lo:=av.ga ht rfl
  simp-implicitDefEqProofs(disch:=omega)only[aj,al,oneOf,QS,↓reduceIte,hn,h4,h5,lo,aV,Tryz.results22]
  rw[gp,e]
  exact⟨cU,rfl,dk.none _ _,aD⟩
 have nt:=aD.next
 by_cases c8:8<L.length
 ·have d8:((L.length:Nat):Int)>8:=by omega
  have bo:cE Tryz.prog 26 []=some (.agg cU.toArray):=by kernel_rfl
  have e:EM L b=(O.none,3):=by unfold EM;rw[if_neg (fun h=>h dF),if_pos c8]
  simp-implicitDefEqProofs(disch:=omega)only[aj,ad,ae,QS,WP,↓reduceIte,hn,h4,h6,hw.aG.bh UK,eq_true d8,bo]
  refine aA iH (by decide) ht rfl rfl rfl rfl ?_
  intro t4 ie u0 ru
  have ie:av t4 s.next cU:=ie
  have lo:=av.ga ie rfl
  simp-implicitDefEqProofs(disch:=omega)only[aj,al,oneOf,QS,WP,↓reduceIte,hn,h4,lo,aV,Tryz.results22]
  rw[gp,e]
  exact⟨cU,rfl,dk.none _ _,(bm.trans (aD.weaken n1)).trans ⟨by omega,fun j hj=>ru j (by omega)⟩⟩
 have d8:¬((L.length:Nat):Int)>8:=by omega
 obtain⟨M,hM⟩:∃M,M=L.map fG:=⟨_,rfl⟩
 have hMl:M.length=L.length:=by rw[hM,List.length_map]
 have eM:EM L b=if(df M b).2≠0 then(O.none,(df M b).2) else(.mk 8 0 (df M b).1 [] (cX [] (jN M)),0):=by
  unfold EM;rw[if_neg (fun h=>h dF),if_neg c8,<-hM]
 rw[<-hM] at dF hw N5
 have RE:ar s.next s t:=bm.trans (aD.weaken n1)
 simp-implicitDefEqProofs(disch:=omega)only[aj,ad,QS,WP,↓reduceIte,hn,h0,h6,hw.aG.bh UK,eq_false d8,aB]
 refine Comes.bK (fun q f u=>∃(k:Nat) (v:Value),q=k/\k<=M.length/\(df (M.drop k) b).2=0/\aN u 1 v (df (M.drop k) b).1.length (ofBytes (df (M.drop k) b).1)/\ar t.next t u/\f.n=76/\f.get 4= .pointer (some ⟨s.next,0,some 6⟩)/\f.get 6=w/\f.get 8=v/\f.get 9= .int .i64 ((k:Int)-1))
  (fun q f u=>(q= .ret/\(df M b).2≠0/\av u s.next cU/\ar s.next s u/\f.n=76/\f.get 4= .pointer (some ⟨s.next,0,some 6⟩)/\f.get 5= .int .i64 (df M b).2)\/(q= .exit 2/\∃v,(df M b).2=0/\aN u 1 v (df M b).1.length (ofBytes (df M b).1)/\ar t.next t u/\f.n=76/\f.get 4= .pointer (some ⟨s.next,0,some 6⟩)/\f.get 6=w/\f.get 8=v))
  ⟨M.length,x,rfl,Nat.le_refl _,by rw[List.drop_length];rfl,by rw[List.drop_length];exact hx.keeps RE,ar.refl _ _,by simp only[ag,hn],by simp only[aa,↓reduceIte,WP,h4],by simp only[aa,↓reduceIte,WP,h6],by simp only[aa,↓reduceIte,WP],by simp only[aa,↓reduceIte,hMl]⟩ ?_ ?_
 ·clear hn h0 h4 h6 f
  rintro Q hQ k f u ⟨_,v,rfl,hk,he,hv,hu,hn,h4,h6,h8,h9⟩
  have nu:=hu.next
  cases k with
  |zero=>
   rw[List.drop_zero] at he hv
   have d1:¬(((0:Nat):Int)-1>=0):=by decide
   simp-implicitDefEqProofs(disch:=omega)only[aj,QS,↓reduceIte,hn,h9,eq_false d1]
   exact hQ _ _ _ (.inr ⟨rfl,v,he,hv,hu,by simp only[ag,hn],by simp only[aa,↓reduceIte,WP,h4],by simp only[aa,↓reduceIte,WP,h6],by simp only[aa,↓reduceIte,WP,h8]⟩)
  |succ k=>
   have bc:k<M.length:=hk
   have d1:((k+1:Nat):Int)-1>=0:=by omega
   have e9:((k+1:Nat):Int)-1=(k:Int):=by omega
   rw[e9] at h9 d1
   have hwu:=hw.keeps hu
   have ln:=hwu.aG.indexAddr (P:=Tryz.prog) (k:= .i64) (x:=(k:Int)) UK cV (by omega) (by omega)
   rw[Int.toNat_natCast] at ln
   have iF:=hwu.aG.fm (P:=Tryz.prog) lB cV (k:=k) (by omega)
   rw[u7 bc] at iF
   obtain⟨l,hl⟩:∃l,l=M[k]:=⟨_,rfl⟩
   rw[<-hl] at iF
   have F5:M.drop k=l::M.drop (k+1):=by rw[List.drop_eq_getElem_cons bc,hl]
   have hdo:df (M.drop k) b=rA l (df (M.drop (k+1)) b).1:=by rw[F5];simp only[df];rw[if_neg (fun h=>h he)]
   have cY:=G6 (L:=M.drop (k+1)) (b:=b) (by rw[List.length_drop];omega) hb
   simp-implicitDefEqProofs(disch:=omega)only[aj,ak,ad,QS,WP,↓reduceIte,hn,h6,h8,h9,eq_true d1,ln,iF]
   refine(adi u l (N5 l (by rw[hl];exact List.getElem_mem bc)) v _ hv (by omega)).mono ?_
   rintro _ u2 ⟨v2,rfl,RJ⟩
   have x0:∀z,ba (.tuple #[v2,z]) 0=some v2:=fun _=>rfl
   have x1:∀z,ba (.tuple #[v2,z]) 1=some z:=fun _=>rfl
   rw[<-hdo] at RJ|-
   have ku:=RJ.stay
   have II:ar t.next t u2:=hu.trans (ku.weaken nu)
   have nu2:=II.next
   by_cases ce:(df (M.drop k) b).2=0
   rotate_left
   ·have bo:cE Tryz.prog 26 []=some (.agg cU.toArray):=by kernel_rfl
    have dN:=Sr ce (by omega)
    obtain⟨a1,a2⟩:=dN 0 (by omega)
    rw[List.drop_zero] at a1 a2
    simp-implicitDefEqProofs(disch:=omega)only[aj,ak,ae,QS,WP,↓reduceIte,hn,h4,x0,x1,decide_not,decide_eq_false ce,bo]
    refine aA iH (by decide) (ht.keeps II) rfl rfl rfl rfl ?_
    intro t4 ie u0 ru
    have ie:av t4 s.next cU:=ie
    simp-implicitDefEqProofs(disch:=omega)only[aj,QS,↓reduceIte,hn]
    exact hQ _ _ _ (.inl ⟨rfl,a2,ie,(RE.trans (II.weaken (by omega))).trans ⟨by omega,fun j hj=>ru j (by omega)⟩,by simp only[ag,hn],by simp only[aa,↓reduceIte,WP,h4],by simp only[aa,↓reduceIte,a1]⟩)
   simp-implicitDefEqProofs(disch:=omega)only[aj,ak,QS,WP,↓reduceIte,hn,h9,x0,x1,decide_not,decide_eq_true ce,aB]
   exact au k (by omega) ⟨k,v2,rfl,by omega,ce,RJ.own.aG,II,by simp only[ag,hn],by simp only[aa,↓reduceIte,WP,h4],by simp only[aa,↓reduceIte,WP,h6],by simp only[aa,↓reduceIte,WP],by simp only[aa,↓reduceIte]⟩
 clear hn h0 h4 h6 f
 rintro _ f u (⟨rfl,lQ,hu,hsu,hn,h4,h5⟩|⟨rfl,v,he,hv,hu,hn,h4,h6,h8⟩)
 ·have lo:=av.ga hu rfl
  rw[if_pos lQ] at eM
  simp-implicitDefEqProofs(disch:=omega)only[aj,al,oneOf,QS,↓reduceIte,hn,h4,h5,lo,aV,Tryz.results22]
  rw[gp,eM]
  exact⟨cU,rfl,dk.none _ _,hsu⟩
 rw[if_neg (fun h=>h he)] at eM
 have nu:=hu.next
 have hNm:=G7 dF
 have hwu:=(hw.keeps hu).aG
 rw[<-hMl] at hwu
 simp-implicitDefEqProofs(disch:=omega)only[aj,ak,ad,QS,WP,↓reduceIte,hn,h6,h8]
 refine(EN u w M hwu (by omega) hNm (fun l hl=>(N5 l hl).1)).mono ?_
 rintro z u2 ⟨lx,hz,hR,k2⟩
 have nk2:=k2.next
 have cY:=N7 (L:=M) (b:=b) (by omega) hb
 simp-implicitDefEqProofs(disch:=omega)only[aj,ak,ad,QS,WP,↓reduceIte,hn]
 have hEs:∀e∈jN M,Small e.2:=fun e he=>Ln hNm (by omega) e he
 refine(M9 (lib:=eC) afZ _ u2 v _ (hv.keeps k2) (by omega) z (jN M) lx hz hR (by have:=G1 M;omega) hEs).mono ?_
 rintro _ u3 ⟨cs,rfl,ho,k3⟩
 have nk3:=k3.next
 simp-implicitDefEqProofs(disch:=omega)only[aj,QS,WP,↓reduceIte,hn,h4]
 refine aA iH (by decide) ((ht.keeps hu).keeps (k2.trans (k3.weaken nk2))) rfl rfl (by simpa using ho.len) ho.ok ?_
 intro t4 ie u0 ru
 have ie:av t4 s.next cs:=ie
 have lo:=av.ga ie ho.len
 simp-implicitDefEqProofs(disch:=omega)only[aj,al,oneOf,QS,WP,↓reduceIte,hn,h4,lo,aV,Tryz.results22]
 rw[gp,eM]
 obtain⟨c2,e2,o2,p2⟩:=lW.put (F:=fun j=>u2.next<=j) (s:=s) ho (fun j hj=>⟨by omega,by omega⟩) u0 ru (((RE.trans (hu.weaken (by omega))).trans (k2.weaken (by omega))).trans (k3.weaken (by omega))) (Nat.le_refl _)
 exact⟨cs,rfl,by injection e2 with e2;have:=congrArg Array.toList e2;rw[List.toList_toArray,List.toList_toArray] at this;rw[this];exact o2,p2⟩
end Go.Proofs.YtdfjfncifneocaaGreat
