import Derived.Test.YtdfjfncifneocaaGreatChC
import Derived.Test.YtdfjfncifneocaaGreatStands
import Derived.Test.YtdfjfncifneocaaGreatCutW
import Derived.Test.YtdfjfncifneocaaGreatRint
import Derived.Test.YtdfjfncifneocaaGreatChE
set_option linter.unusedSimpArgs false
set_option linter.unusedVariables false
set_option maxRecDepth 100000
namespace Go.Proofs.YtdfjfncifneocaaGreat
open Go.Cl Go.Cl.Pr Go.Cl.Ch Go.Cl.Hx Go.Cl.B85
theorem ue:bq Tryz.prog 68=some 5:=by kernel_rfl
theorem VA:cw Tryz.prog 68=some true:=by kernel_rfl
theorem Ow (i o c:Nat):az Tryz.prog 68 (.pointer (some ⟨i,o,some c⟩)) 0=some (.pointer (some ⟨i,o+0,some c⟩)):=by
 unfold az;rw[Tryz.underlying68];simp[yS]
theorem Ox (i o c:Nat):az Tryz.prog 68 (.pointer (some ⟨i,o,some c⟩)) 1=some (.pointer (some ⟨i,o+3,some c⟩)):=by
 unfold az;rw[Tryz.underlying68];simp[Br]
theorem aaW:Rz cQ:=by constructor<;>rfl
theorem IX:Mu cQ:=by constructor<;>rfl
set_option maxHeartbeats 4000000 in
theorem RQ (s:aq)(a:List UInt8):Runs Tryz.prog cQ 38 [.string ⟨a.toArray⟩] s fun v s' =>v= .bool (decide (a∈zt))/\s' =s:=by
 obtain⟨QQ,gj⟩:∃QQ:Value->aq->Prop,QQ=fun v s' =>v= .bool (decide (a∈zt))/\s' =s:=⟨_,rfl⟩
 rw[<-gj]
 refine Runs.enter 10 Tryz.func38 rfl rfl rfl rfl ?_
 intro f hn hf
 have h0:f.get 0= .string ⟨a.toArray⟩:=hf 0
 clear hf
 have e1:=gO (P:=Tryz.prog) (t:=9) a kU
 rw[show kU.toArray= #[70,108,97,116,101,68,101,99,111,100,101] from rfl] at e1
 have e2:=gO (P:=Tryz.prog) (t:=9) a N7
 rw[show N7.toArray= #[76,90,87,68,101,99,111,100,101] from rfl] at e2
 have e3:=gO (P:=Tryz.prog) (t:=9) a xX
 rw[show xX.toArray= #[65,83,67,73,73,72,101,120,68,101,99,111,100,101] from rfl] at e3
 have e4:=gO (P:=Tryz.prog) (t:=9) a N8
 rw[show N8.toArray= #[65,83,67,73,73,56,53,68,101,99,111,100,101] from rfl] at e4
 have e5:=gO (P:=Tryz.prog) (t:=9) a xY
 rw[show xY.toArray= #[82,117,110,76,101,110,103,116,104,68,101,99,111,100,101] from rfl] at e5
 have yes:∀q:Value,a∈zt->QQ (.bool true) s:=fun _ h=>by rw[gj,decide_eq_true h];exact⟨rfl,rfl⟩
 by_cases c0:a=kU
 ·rw[decide_eq_true (c0)] at e1
  simp-implicitDefEqProofs(disch:=omega)only[ai,al,oneOf,Nat.reduceLT,Nat.reduceEqDiff,↓reduceIte,hn,h0,e1,Tryz.results38]
  exact yes undef (by rw[c0];decide)
 rw[decide_eq_false (c0)] at e1
 by_cases c1:a=N7
 ·rw[decide_eq_true (c1)] at e2
  simp-implicitDefEqProofs(disch:=omega)only[ai,al,oneOf,Nat.reduceLT,Nat.reduceEqDiff,↓reduceIte,hn,h0,e1,e2,Tryz.results38]
  exact yes undef (by rw[c1];decide)
 rw[decide_eq_false (c1)] at e2
 by_cases c2:a=xX
 ·rw[decide_eq_true (c2)] at e3
  simp-implicitDefEqProofs(disch:=omega)only[ai,al,oneOf,Nat.reduceLT,Nat.reduceEqDiff,↓reduceIte,hn,h0,e1,e2,e3,Tryz.results38]
  exact yes undef (by rw[c2];decide)
 rw[decide_eq_false (c2)] at e3
 by_cases c3:a=N8
 ·rw[decide_eq_true (c3)] at e4
  simp-implicitDefEqProofs(disch:=omega)only[ai,al,oneOf,Nat.reduceLT,Nat.reduceEqDiff,↓reduceIte,hn,h0,e1,e2,e3,e4,Tryz.results38]
  exact yes undef (by rw[c3];decide)
 rw[decide_eq_false (c3)] at e4
 by_cases c4:a=xY
 ·rw[decide_eq_true (c4)] at e5
  simp-implicitDefEqProofs(disch:=omega)only[ai,al,oneOf,Nat.reduceLT,Nat.reduceEqDiff,↓reduceIte,hn,h0,e1,e2,e3,e4,e5,Tryz.results38]
  exact yes undef (by rw[c4];decide)
 rw[decide_eq_false (c4)] at e5
 simp-implicitDefEqProofs(disch:=omega)only[ai,al,oneOf,Nat.reduceLT,Nat.reduceEqDiff,↓reduceIte,hn,h0,e1,e2,e3,e4,e5,Tryz.results38]
 rw[gj,decide_eq_false (show¬a∈zt by simp[zt,c0,c1,c2,c3,c4])]
 exact⟨rfl,rfl⟩
set_option maxHeartbeats 4000000 in
theorem Uo (s:aq)(l:Lk)(x:Value)(b:List UInt8)(hx:aM s 1 x b.length (ofBytes b))(hb:b.length<=2000000):
  Runs Tryz.prog cQ 52 [kV l,x] s (EC s (sB l b)):=by
 obtain⟨QQ,gj⟩:∃QQ:Value->aq->Prop,QQ=EC s (sB l b):=⟨_,rfl⟩
 rw[<-gj]
 refine Runs.enter 38 Tryz.func52 rfl rfl rfl rfl ?_
 intro f hn hf
 have h0:f.get 0=kV l:=hf 0
 have h1:f.get 1=x:=hf 1
 clear hf
 simp-implicitDefEqProofs(disch:=omega)only[ai,Nat.reduceLT,↓reduceIte,hn,h0]
 refine aw ?_
 intro s1 ht aA uS
 have ht:av s1 s.next l.cells:=ht
 have hd:l.cells.length+1=6:=rfl
 have iU:=hx.keeps aA
 have p3:aG Tryz.prog s1 9 (.pointer (some ⟨s.next,3,some 6⟩))=some (.string ⟨l.name.toArray⟩):=ht.load mW (off:=3) (c:=6) rfl (by simp[Lk.cells])
 have e1:=gO (P:=Tryz.prog) (t:=9) l.name xX
 have e2:=gO (P:=Tryz.prog) (t:=9) l.name N8
 have e3:=gO (P:=Tryz.prog) (t:=9) l.name xY
 have e4:=gO (P:=Tryz.prog) (t:=9) l.name kU
 rw[show xX.toArray= #[65,83,67,73,73,72,101,120,68,101,99,111,100,101] from rfl] at e1
 rw[show N8.toArray= #[65,83,67,73,73,56,53,68,101,99,111,100,101] from rfl] at e2
 rw[show xY.toArray= #[82,117,110,76,101,110,103,116,104,68,101,99,111,100,101] from rfl] at e3
 rw[show kU.toArray= #[70,108,97,116,101,68,101,99,111,100,101] from rfl] at e4
 by_cases c1:l.name=xX
 ·rw[decide_eq_true c1] at e1
  simp-implicitDefEqProofs(disch:=omega)only[ai,aj,ad,Nat.reduceLT,Nat.reduceEqDiff,↓reduceIte,hn,h1,hd,Ox,p3,e1]
  refine(RO (lib:=cQ) rfl rfl rfl s1 x b iU (by omega)).mono ?_
  intro w s2 hw
  simp-implicitDefEqProofs(disch:=omega)only[ai,al,oneOf,Nat.reduceLT,Nat.reduceEqDiff,↓reduceIte,hn,Tryz.results52]
  rw[gj]
  exact⟨w,by unfold sB;rw[if_pos c1],by unfold sB;rw[if_pos c1];exact bU.behind hw aA⟩
 rw[decide_eq_false c1] at e1
 by_cases c2:l.name=N8
 ·rw[decide_eq_true c2] at e2
  simp-implicitDefEqProofs(disch:=omega)only[ai,aj,ad,Nat.reduceLT,Nat.reduceEqDiff,↓reduceIte,hn,h1,hd,Ox,p3,e1,e2]
  refine(IP (lib:=cQ) rfl s1 x b iU (by omega)).mono ?_
  intro w s2 hw
  simp-implicitDefEqProofs(disch:=omega)only[ai,al,oneOf,Nat.reduceLT,Nat.reduceEqDiff,↓reduceIte,hn,Tryz.results52]
  rw[gj]
  exact⟨w,by unfold sB;rw[if_neg c1,if_pos c2],by unfold sB;rw[if_neg c1,if_pos c2];exact bU.behind hw aA⟩
 rw[decide_eq_false c2] at e2
 by_cases c3:l.name=xY
 ·rw[decide_eq_true c3] at e3
  simp-implicitDefEqProofs(disch:=omega)only[ai,aj,ad,Nat.reduceLT,Nat.reduceEqDiff,↓reduceIte,hn,h1,hd,Ox,p3,e1,e2,e3]
  refine(Gl (lib:=cQ) rfl rfl s1 x b iU (by omega)).mono ?_
  intro w s2 hw
  simp-implicitDefEqProofs(disch:=omega)only[ai,al,oneOf,Nat.reduceLT,Nat.reduceEqDiff,↓reduceIte,hn,Tryz.results52]
  rw[gj]
  exact⟨w,by unfold sB;rw[if_neg c1,if_neg c2,if_pos c3],by unfold sB;rw[if_neg c1,if_neg c2,if_pos c3];exact bU.behind hw aA⟩
 rw[decide_eq_false c3] at e3
 have la:aG Tryz.prog s1 66 (.pointer (some ⟨s.next,0,some 6⟩))=some (i3 l.p l.co l.cl):=by
  have:=av.tn (P:=Tryz.prog) HC yS ht (off:=0) (c:=6) rfl (by simp[Lk.cells])
  rw[this];rfl
 simp-implicitDefEqProofs(disch:=omega)only[ai,aj,ad,Nat.reduceLT,Nat.reduceEqDiff,↓reduceIte,hn,h1,hd,Ow,Ox,p3,e1,e2,e3,la]
 refine(RA (lib:=cQ) aaW rfl s1 l.p l.co l.cl x b iU (by omega)).mono ?_
 rintro _ s2 ⟨w,rfl,hw⟩
 have hk:ar s.next s s2:=aA.trans (hw.stay.weaken aA.next)
 have pH:=Bs l.p l.co l.cl b
 have x0:∀z,cN (.tuple #[w,z]) 0=some w:=fun _=>rfl
 have x1:∀z,cN (.tuple #[w,z]) 1=some z:=fun _=>rfl
 by_cases c4:(fE l.p l.co l.cl b).2=0
 rotate_left
 ·have hD:sB l b=([],(fE l.p l.co l.cl b).2):=by unfold sB;rw[if_neg c1,if_neg c2,if_neg c3,if_pos c4]
  simp-implicitDefEqProofs(disch:=omega)only[ai,aj,al,oneOf,Nat.reduceLT,Nat.reduceEqDiff,↓reduceIte,hn,x0,x1,decide_not,decide_eq_false c4,Tryz.results52]
  rw[gj,hD]
  exact⟨_,rfl,⟨.nil,aN.nil _,hk⟩⟩
 have fm:=ht.keeps hw.stay
 have p4:aG Tryz.prog s2 9 (.pointer (some ⟨s.next,3,some 6⟩))=some (.string ⟨l.name.toArray⟩):=fm.load mW (off:=3) (c:=6) rfl (by simp[Lk.cells])
 rw[c4]
 by_cases c5:l.name=kU
 ·rw[decide_eq_true c5] at e4
  have hD:sB l b=(Fx.NN (fE l.p l.co l.cl b).1,0):=by unfold sB;rw[if_neg c1,if_neg c2,if_neg c3,if_neg (fun h=>h c4),if_pos c5]
  simp-implicitDefEqProofs(disch:=omega)only[ai,aj,ad,Nat.reduceLT,Nat.reduceEqDiff,↓reduceIte,hn,x0,x1,Ox,p4,e4]
  refine(NO (lib:=cQ) rfl rfl rfl rfl rfl rfl rfl rfl rfl rfl rfl rfl rfl rfl rfl s2 w _ hw.own.aH (by omega)).mono ?_
  intro y s3 hy
  simp-implicitDefEqProofs(disch:=omega)only[ai,al,oneOf,Nat.reduceLT,Nat.reduceEqDiff,↓reduceIte,hn,Tryz.results52]
  rw[gj,hD]
  exact⟨y,rfl,hy.behind hk⟩
 rw[decide_eq_false c5] at e4
 have hD:sB l b=(Lz.GC (fE l.p l.co l.cl b).1,0):=by unfold sB;rw[if_neg c1,if_neg c2,if_neg c3,if_neg (fun h=>h c4),if_neg c5]
 simp-implicitDefEqProofs(disch:=omega)only[ai,aj,ad,Nat.reduceLT,Nat.reduceEqDiff,↓reduceIte,hn,x0,x1,Ox,p4,e4]
 refine(RE (lib:=cQ) rfl rfl rfl rfl s2 w _ hw.own.aH (by omega)).mono ?_
 intro y s3 hy
 simp-implicitDefEqProofs(disch:=omega)only[ai,al,oneOf,Nat.reduceLT,Nat.reduceEqDiff,↓reduceIte,hn,Tryz.results52]
 rw[gj,hD]
 exact⟨y,rfl,hy.behind hk⟩
set_option maxHeartbeats 4000000 in
theorem K5 (s:aq)(l:Lk):Runs Tryz.prog cQ 53 [kV l] s (gz s (gB l)):=by
 obtain⟨QQ,gj⟩:∃QQ:Value->aq->Prop,QQ=gz s (gB l):=⟨_,rfl⟩
 rw[<-gj]
 refine Runs.enter 27 Tryz.func53 rfl rfl rfl rfl ?_
 intro f hn hf
 have h0:f.get 0=kV l:=hf 0
 clear hf
 simp-implicitDefEqProofs(disch:=omega)only[ai,Nat.reduceLT,↓reduceIte,hn,h0]
 refine aw ?_
 intro s1 ht aA uS
 have ht:av s1 s.next l.cells:=ht
 have hd:l.cells.length+1=6:=rfl
 simp-implicitDefEqProofs(disch:=omega)only[ai,Nat.reduceLT,↓reduceIte,hn,hd,zO,oQ]
 refine aw ?_
 intro s2 fm bD na
 have il:cr.length+1=6:=rfl
 have OJ:=ht.keeps bD
 have k02:ar s.next s s2:=aA.trans (bD.weaken aA.next)
 have n1:=aA.next
 have n2:=bD.next
 have p0:∀t,ar s2.next s2 t->aG Tryz.prog t 3 (.pointer (some ⟨s.next,0,some 6⟩))=some (.int .i64 l.p):=fun t h=>(OJ.keeps h).load cj (off:=0) (c:=6) rfl (by simp[Lk.cells])
 have p1:∀t,ar s2.next s2 t->aG Tryz.prog t 3 (.pointer (some ⟨s.next,1,some 6⟩))=some (.int .i64 l.co):=fun t h=>(OJ.keeps h).load cj (off:=1) (c:=6) rfl (by simp[Lk.cells])
 have p2:∀t,ar s2.next s2 t->aG Tryz.prog t 3 (.pointer (some ⟨s.next,2,some 6⟩))=some (.int .i64 l.cl):=fun t h=>(OJ.keeps h).load cj (off:=2) (c:=6) rfl (by simp[Lk.cells])
 by_cases c1:l.p=1
 ·have bo:dM Tryz.prog 26 []=some (.agg cr.toArray):=by kernel_rfl
  simp-implicitDefEqProofs(disch:=omega)only[ai,ag,Nat.reduceLT,Nat.reduceEqDiff,↓reduceIte,hn,il,Ow,tA,p0 _ (ar.refl _ _),eq_true c1,bo]
  refine aE eO (by decide) fm rfl rfl rfl rfl ?_
  intro s4 fU lN jc
  have fU:av s4 s1.next cr:=fU
  simp-implicitDefEqProofs(disch:=omega)only[ai,al,oneOf,Nat.reduceLT,Nat.reduceEqDiff,↓reduceIte,hn,av.dQ fU rfl,aW,Tryz.results53]
  rw[gj]
  unfold gB
  rw[if_pos c1]
  exact gz.put (F:=fun _=>False) (dr.none _ s2) (fun j hj=>hj.elim) lN jc k02 (by omega)
 simp-implicitDefEqProofs(disch:=omega)only[ai,Nat.reduceLT,Nat.reduceEqDiff,↓reduceIte,hn,il,Ow,tA,p0 _ (ar.refl _ _),eq_false c1]
 obtain⟨A,hA⟩:∃A:Nat->Bool,A=fun j=>decide (j<s2.next):=⟨_,rfl⟩
 have ef:∀j,A j=true->j<s2.next:=by
  intro j h
  rw[hA] at h
  exact of_decide_eq_true h
 have gW:∀j,j<s2.next->A j=true:=fun j h=>by rw[hA];exact decide_eq_true h
 refine LB.cF.dy A ef 9 1 (by kernel_rfl) (by kernel_rfl) ?_
 have db:=ar.spare s2 1
 have F1:(spare s2 1).next=s2.next+1:=bT _ _
 have nM:∀k,LA.dB A (some (.pointer (some ⟨s.next,k,some 6⟩)))=true:=fun k=>LA.bY (A:=A) (i:=s.next) (gW _ (by omega))
 have zA:=db
 simp-implicitDefEqProofs(disch:=omega)only[ai,aj,bp,Nat.add_one_sub_one,ad,Nat.reduceLT,Nat.reduceEqDiff,↓reduceIte,hn]
 refine(wI (lib:=cQ) rfl _ 8).mono ?_
 rintro _ a0 ⟨ca0,rfl,oa0,Xe⟩
 have ma0:=Xe.next
 have Ka0:ar s2.next s2 a0:=db.trans (Xe.weaken (by omega))
 refine⟨fun _=>LA.ar.lM ef (Xe.weaken (by omega)),?_⟩
 try simp-implicitDefEqProofs(disch:=omega)only[ai,aj,bn,bp,Nat.sub_self,Nat.add_one_sub_one,Nat.reduceSub,oneOf,ad,ag,ah,Nat.reduceLT,Nat.reduceLeDiff,Nat.reduceEqDiff,Nat.reduceAdd,↓reduceIte,hn,h0,oa0.self]
 refine(iK (lib:=cQ) rfl rfl rfl _ a0 qI ca0 _ oa0 (Small.bare 2 _)).mono ?_
 rintro _ b0 ⟨T9,rfl,eb0,Xf⟩
 have mb0:=Xf.next
 have Xg:=eb0.len
 have Kb0:ar s2.next s2 b0:=Ka0.trans (Xf.weaken (by omega))
 refine⟨fun _=>LA.ar.lM ef (Xf.weaken (by omega)),?_⟩
 try simp-implicitDefEqProofs(disch:=omega)only[ai,aj,bn,bp,Nat.add_one_sub_one,ad,Nat.reduceLT,Nat.reduceEqDiff,↓reduceIte,hn,Ow,xA,Dj,nM,p1 _ Kb0]
 refine(wI (lib:=cQ) rfl _ l.co).mono ?_
 rintro _ a1 ⟨ca1,rfl,oa1,Ua⟩
 have ma1:=Ua.next
 have Ka1:ar s2.next s2 a1:=Kb0.trans (Ua.weaken (by omega))
 refine⟨fun _=>LA.ar.lM ef (Ua.weaken (by omega)),?_⟩
 try simp-implicitDefEqProofs(disch:=omega)only[ai,aj,bn,bp,Nat.sub_self,Nat.add_one_sub_one,Nat.reduceSub,oneOf,ad,ag,ah,Nat.reduceLT,Nat.reduceLeDiff,Nat.reduceEqDiff,Nat.reduceAdd,↓reduceIte,hn,h0,oa1.self]
 refine(iK (lib:=cQ) rfl rfl rfl _ a1 jy ca1 _ oa1 (Small.bare 2 _)).mono ?_
 rintro _ b1 ⟨Ub,rfl,OR,Rp⟩
 have mb1:=Rp.next
 have Xh:=OR.len
 have Kb1:ar s2.next s2 b1:=Ka1.trans (Rp.weaken (by omega))
 refine⟨fun _=>LA.ar.lM ef (Rp.weaken (by omega)),?_⟩
 try simp-implicitDefEqProofs(disch:=omega)only[ai,aj,bn,bp,Nat.add_one_sub_one,ad,Nat.reduceLT,Nat.reduceEqDiff,↓reduceIte,hn,Ow,tA,nM,p2 _ Kb1]
 refine(wI (lib:=cQ) rfl _ l.cl).mono ?_
 rintro _ a2 ⟨ca2,rfl,oa2,Rq⟩
 have ma2:=Rq.next
 have Ka2:ar s2.next s2 a2:=Kb1.trans (Rq.weaken (by omega))
 refine⟨fun _=>LA.ar.lM ef (Rq.weaken (by omega)),?_⟩
 try simp-implicitDefEqProofs(disch:=omega)only[ai,aj,bn,bp,Nat.sub_self,Nat.add_one_sub_one,Nat.reduceSub,oneOf,ad,ag,ah,Nat.reduceLT,Nat.reduceLeDiff,Nat.reduceEqDiff,Nat.reduceAdd,↓reduceIte,hn,h0,oa2.self]
 refine(iK (lib:=cQ) rfl rfl rfl _ a2 gU ca2 _ oa2 (Small.bare 2 _)).mono ?_
 rintro _ b2 ⟨Uc,rfl,OS,Oh⟩
 have mb2:=Oh.next
 have Xi:=OS.len
 have Kb2:ar s2.next s2 b2:=Ka2.trans (Oh.weaken (by omega))
 refine⟨fun _=>LA.ar.lM ef (Oh.weaken (by omega)),?_⟩
 try simp-implicitDefEqProofs(disch:=omega)only[ai,aj,bn,bp,Nat.add_one_sub_one,ad,ag,Nat.reduceLT,Nat.reduceEqDiff,↓reduceIte,hn,nM,p0 _ Kb2]
 refine(wI (lib:=cQ) rfl _ l.p).mono ?_
 rintro _ a3 ⟨ca3,rfl,oa3,Oi⟩
 have ma3:=Oi.next
 have Ka3:ar s2.next s2 a3:=Kb2.trans (Oi.weaken (by omega))
 refine⟨fun _=>LA.ar.lM ef (Oi.weaken (by omega)),?_⟩
 try simp-implicitDefEqProofs(disch:=omega)only[ai,aj,bn,bp,Nat.sub_self,Nat.add_one_sub_one,Nat.reduceSub,oneOf,ad,ag,ah,Nat.reduceLT,Nat.reduceLeDiff,Nat.reduceEqDiff,Nat.reduceAdd,↓reduceIte,hn,h0,oa3.self]
 refine(iK (lib:=cQ) rfl rfl rfl _ a3 qJ ca3 _ oa3 (Small.bare 2 _)).mono ?_
 rintro _ b3 ⟨Ud,rfl,eb3,Oj⟩
 have mb3:=Oj.next
 have Xj:=eb3.len
 have Kb3:ar s2.next s2 b3:=Ka3.trans (Oj.weaken (by omega))
 refine⟨fun _=>LA.ar.lM ef (Oj.weaken (by omega)),?_⟩
 have sE:∀(k:List UInt8) (cs:List Value),cs.length=5->(Value.string ⟨k.toArray⟩::cs).length=6:=fun k cs h=>by rw[List.length_cons,h]
 simp-implicitDefEqProofs(disch:=omega)only[aj,EI (a:=(.string ⟨qI.toArray⟩::T9).toArray) (b:=(.string ⟨jy.toArray⟩::Ub).toArray) (c:=(.string ⟨gU.toArray⟩::Uc).toArray) (d:=(.string ⟨qJ.toArray⟩::Ud).toArray) Tryz.underlying24 jx zE Du rfl (sE qI T9 Xg) (sE jy Ub Xh) (sE gU Uc Xi) (sE qJ Ud Xj) (by decide)]
 refine LB.bF (base:=s2.next) (by simp[Xg,Xh,Xi,Xj]) (by omega) (Nat.le_refl _) ?_
 intro x t hx fc cf tB qR
 have mk:∀(k:List UInt8) (q:List Value) (o:O) (b:Nat) (u:aq),dr (fun j=>b<=j) u q o->s2.next+1<=b->ar u.next u b3->k.length<=9223372036854775807->cu (fun _=>True) t (.string ⟨k.toArray⟩::q) (k,o):=fun k q o b u ho hb hu hk=>⟨q,rfl,((ho.keeps hu).turns (u:= .pointer (some ⟨s2.next,0,none⟩)) (bm.bc tB qR) (fun j hj e=>by
  have e:some s2.next=some j:=e
  injection e with e;omega)).mono (fun _ _=>trivial),hk⟩
 have r4:=aL.four (F:=fun _=>True) (s:=t) (sE qI T9 Xg) (mk qI T9 _ _ _ eb0 (by omega) (Ua.trans (Rp.weaken (by omega))|>.trans (Rq.weaken (by omega))|>.trans (Oh.weaken (by omega))|>.trans (Oi.weaken (by omega))|>.trans (Oj.weaken (by omega))) (by decide)) (sE jy Ub Xh) (mk jy Ub _ _ _ OR (by omega) (Rq.trans (Oh.weaken (by omega))|>.trans (Oi.weaken (by omega))|>.trans (Oj.weaken (by omega))) (by decide)) (sE gU Uc Xi) (mk gU Uc _ _ _ OS (by omega) (Oi.trans (Oj.weaken (by omega))) (by decide)) (sE qJ Ud Xj) (mk qJ Ud _ _ _ eb3 (by omega) (ar.refl _ _) (by decide))
 simp-implicitDefEqProofs(disch:=omega)only[ai,aj,bp,Nat.sub_self,ad,Nat.reduceLT,Nat.reduceEqDiff,↓reduceIte,hn]
 refine(ES (lib:=cQ) IX (fun _=>True) t x (Gm l) _ hx.aH r4 (by simp[Gm]) (uP l)).mono ?_
 rintro _ u ⟨cs,rfl,ho,k5⟩
 have K3:ar s2.next s2 t:=Kb3.trans cf
 have m5:=k5.next
 refine⟨fun _=>LA.ar.lM ef (k5.weaken (by have:=K3.next;omega)),?_⟩
 have m3:=K3.next
 have DO:=fm.keeps (K3.trans (k5.weaken m3))
 try simp-implicitDefEqProofs(disch:=omega)only[ai,aj,bn,bp,Nat.sub_self,Nat.add_one_sub_one,Nat.reduceSub,oneOf,ad,ag,ah,Nat.reduceLT,Nat.reduceLeDiff,Nat.reduceEqDiff,Nat.reduceAdd,↓reduceIte,hn,h0,il]
 refine LB.fB eO (by decide) DO rfl rfl (by simpa using ho.len) ho.ok (fun h=>absurd rfl h) ?_
 intro s4 fU lN jc
 have fU:av s4 s1.next cs:=fU
 simp-implicitDefEqProofs(disch:=omega)only[ai,al,oneOf,Nat.reduceLT,Nat.reduceEqDiff,↓reduceIte,ai,bp,Nat.reduceSub,oneOf,Nat.reduceLT,Nat.reduceEqDiff,↓reduceIte,hn,av.dQ fU ho.len,aW,Tryz.results53]
 rw[gj]
 unfold gB
 rw[if_neg c1]
 exact gz.put (F:=fun j=>t.next<=j) ho (fun j hj=>⟨by omega,by omega⟩) lN jc (k02.trans ((K3.trans (k5.weaken m3)).weaken (by omega))) (by omega)
end Go.Proofs.YtdfjfncifneocaaGreat
set_option linter.unusedSimpArgs false
set_option linter.unusedVariables false
set_option maxRecDepth 100000
namespace Go.Cl
theorem aM.same {s s' :aq}{z:Nat}{v:Value}{n:Nat}{l:List Value}(h:aM s z v n l)(hn:s.next<=s'.next)(hg:∀j,j<s.next->aJ v=some j->s'.heap.get j=s.heap.get j):aM s' z v n l:=by
 cases h with
 |nil=>exact .nil
 |bare=>exact .bare _ _
 |of i off n c b l hi hb hz hl hc hlen fL ht=>
  refine .of i off n c b l (Nat.lt_of_lt_of_le hi hn) ?_ hz hl hc hlen fL ht
  simp only[aq.bK,hg i hi rfl];exact hb
structure Jb (a b:Nat) (s t:aq):Prop where
 next:s.next<=t.next
 get:∀j,j<s.next->j≠a->j≠b->t.heap.get j=s.heap.get j
theorem Jb.refl (a b:Nat)(s:aq):Jb a b s s:=⟨Nat.le_refl _,fun _ _ _ _=>rfl⟩
theorem Jb.stay {a b:Nat}{s t u:aq}(h:Jb a b s t)(k:ar t.next t u):Jb a b s u:=⟨by have:=h.next;have:=k.next;omega,fun j hj h1 h2=>by rw[k.get j (by have:=h.next;omega),h.get j hj h1 h2]⟩
theorem Jb.turns {a b:Nat}{s t u:aq}{v:Value}(h:Jb a b s t)(k:bm v t u)(hv:∀j,aJ v=some j->s.next<=j):Jb a b s u:=⟨by have:=h.next;have:=k.next;omega,fun j hj h1 h2=>by rw[k.get j (by have:=h.next;omega) (fun e=>by have:=hv j e;omega),h.get j hj h1 h2]⟩
theorem Jb.put {a b n:Nat}{s t u:aq}(h:Jb a b s t)(h1:u.next=t.next)(h2:∀j,j≠n->u.heap.get j=t.heap.get j)(hn:n=a\/n=b\/s.next<=n):Jb a b s u:=⟨by have:=h.next;omega,fun j hj e1 e2=>by rw[h2 j (by omega),h.get j hj e1 e2]⟩
end Go.Cl
namespace Go.Proofs.YtdfjfncifneocaaGreat
open Go.Cl Go.Cl.Pr Go.Cl.Ch
theorem RR {s:aq}{v:Value}{n:Nat}{l:List Value}(h:aM s 5 v n l){k:Nat}(hk:k<n):az Tryz.prog 68 (aT 5 v k) 0=some (bR (aT 5 v k) 0)/\az Tryz.prog 68 (aT 5 v k) 1=some (bR (aT 5 v k) 3)/\az Tryz.prog 66 (bR (aT 5 v k) 0) 0=some (bR (aT 5 v k) 0):=by
 obtain⟨i,off,c,e1,_⟩:=h.cells hk
 rw[e1]
 refine⟨?_,?_,?_⟩
 ·unfold az;rw[Tryz.underlying68];simp[bR,yS]
 ·unfold az;rw[Tryz.underlying68];simp[bR,Br]
 ·unfold az;rw[Tryz.underlying66];simp[bR,cG]
theorem aaX (p co cl:Int):du Tryz.prog .eql 66 (i3 p co cl) (i3 0 0 0)=some (.bool (decide (p=0/\co=0/\cl=0))):=by
 have h:wM Tryz.prog 66 #[.int .i64 p,.int .i64 co,.int .i64 cl] #[.int .i64 0,.int .i64 0,.int .i64 0]=some (p==0&&(co==0&&(cl==0&&true))):=by kernel_rfl
 simp only[du,h]
 congr 2
 rw[Bool.eq_iff_iff]
 simp
def mC (v:Value):List Value:=[.int .i64 6,.int .i64 0,.slice none 0 0,v,.slice none 0 0]
theorem VB (s:aq):Runs Tryz.prog cQ 51 [.slice none 0 0] s fun v s' =>v= .agg (mC (.slice none 0 0)).toArray/\ar s.next s s' :=by
 refine Runs.enter 23 Tryz.func51 rfl rfl rfl rfl ?_
 intro f hn hf
 have h0:f.get 0= .slice none 0 0:=hf 0
 clear hf
 simp-implicitDefEqProofs(disch:=omega)only[ai,↓reduceIte,zO,oQ]
 refine aw ?_
 intro s1 fa bB jb
 have il:cr.length+1=6:=rfl
 simp-implicitDefEqProofs(disch:=omega)only[ai,ag,Nat.reduceLT,↓reduceIte,hn,il,bO1,zO,oQ]
 refine aw ?_
 intro s2 fm bD na
 simp-implicitDefEqProofs(disch:=omega)only[ai,Nat.reduceLT,Nat.reduceEqDiff,↓reduceIte,hn,il]
 refine aE eO (by decide) fm rfl rfl rfl rfl ?_
 intro s3 nB tB qR
 have nB:av s3 s1.next (mC (.slice none 0 0)):=nB
 have Cq:ar s1.next s1 s3:=bD.trans ⟨by omega,fun j hj=>qR j (by omega)⟩
 have uJ:=fa.keeps Cq
 simp-implicitDefEqProofs(disch:=omega)only[ai,Nat.reduceLT,↓reduceIte,hn]
 have hz:aM s3 5 (.slice none 0 0) 0 []:= .nil
 refine Comes.bC (fun z f t=>t=s3/\f.n=23/\f.get 0= .slice none 0 0/\f.get 2= .pointer (some ⟨s.next,0,some 6⟩)/\f.get 3= .pointer (some ⟨s1.next,0,some 6⟩)/\f.get 4= .int .i64 0)
  (fun z f t=>z= .exit 0/\t=s3/\f.n=23/\f.get 2= .pointer (some ⟨s.next,0,some 6⟩)/\f.get 3= .pointer (some ⟨s1.next,0,some 6⟩))
  (k:=0) ⟨rfl,by simp only[ae,hn],by simp only[aa,↓reduceIte,Nat.reduceEqDiff,h0],by simp only[aa,↓reduceIte,Nat.reduceEqDiff],by simp only[aa,↓reduceIte,Nat.reduceEqDiff],by simp only[aa,↓reduceIte]⟩ ?_ ?_
 ·clear hn h0 f
  rintro Q hQ z f t ⟨rfl,hn,h0,h2,h3,h4⟩
  have d1:¬(0:Int)<((0:Nat):Int):=by decide
  simp-implicitDefEqProofs(disch:=omega)only[ai,ad,Nat.reduceLT,Nat.reduceEqDiff,↓reduceIte,hn,h0,h4,hz.aV Tryz.underlying23,eq_false d1]
  exact hQ _ _ _ ⟨rfl,rfl,by simp only[ae,hn],by simp only[aa,↓reduceIte,Nat.reduceEqDiff,h2],by simp only[aa,↓reduceIte,Nat.reduceEqDiff,h3]⟩
 clear hn h0 f
 rintro z f t ⟨rfl,rfl,hn,h2,h3⟩
 simp-implicitDefEqProofs(disch:=omega)only[ai,Nat.reduceLT,Nat.reduceEqDiff,↓reduceIte,hn,h2,h3,av.dQ nB rfl]
 refine aE eO (by decide) uJ rfl rfl rfl rfl ?_
 intro s7 og kA jV
 have og:av s7 s.next (mC (.slice none 0 0)):=og
 simp-implicitDefEqProofs(disch:=omega)only[ai,al,oneOf,Nat.reduceLT,Nat.reduceEqDiff,↓reduceIte,hn,h2,av.dQ og rfl,aW,Tryz.results51]
 exact(bB.trans (Cq.weaken bB.next)).trans ⟨by omega,fun j hj=>jV j (by omega)⟩
end Go.Proofs.YtdfjfncifneocaaGreat
