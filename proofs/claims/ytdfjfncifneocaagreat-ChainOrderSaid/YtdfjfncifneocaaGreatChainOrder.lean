/-
  The statement ChainOrder: any bytes through any links, at once or in two parts: the same stream; the second part undone gives what the first one made: the law returns true.
  Conditions: none.
-/
import Derived.Test.YtdfjfncifneocaaGreatRows
import Derived.ChangeMaps5
import Derived.Test.YtdfjfncifneocaaGreatChI
import Derived.Test.YtdfjfncifneocaaGreatChAw
open Nat renaming reduceLT->QS,reduceEqDiff->Qx
set_option linter.unusedSimpArgs false
set_option linter.unusedVariables false
set_option maxRecDepth 100000
namespace Go.Proofs.YtdfjfncifneocaaGreat.chainOrder
open Go.ChangeShapes Go.WideShapes Go.ChangeAt Go.RowKit Go.Cl Go.Cl.Pr Go.Cl.Ch
theorem afv:oG (gX Tryz.prog df 100000 9 [] ⟨.nil,2⟩)=true:=afu
theorem afw {x:Int}(h:(Lit.int .u8 x).wf=true):∃c:Nat,c<256/\x=(c:Int):=by
 obtain⟨bs,h1,h2⟩:=KU (zs:=[x]) (by simpa using h)
 match bs,h1 with
 |[c],_=>
  simp[ofBytes] at h2
  exact⟨c.toNat,c.toNat_lt,h2⟩
theorem Nd:∀(L:List Lk) (i:Nat),(ki L).drop (i*5)=ki (L.drop i)
 |_,0=>by simp
 |[],i+1=>by simp[ki]
 |l::r,i+1=>by
  have e:ki (l::r)=l.cells++ki r:=by simp[ki]
  rw[e,List.drop_succ_cons,<-Nd r i,show(i+1)*5=l.cells.length+i*5 by rw[Lk.Jr];omega,<-List.drop_drop,List.drop_left]
theorem YH (L:List Lk){i:Nat}(h:i<=L.length):(ki L).take (i*5)=ki (L.take i):=by
 conv=>lhs;rw[<-List.take_append_drop i L,vZ]
 rw[List.take_left' (by rw[DY,List.length_take,Nat.min_eq_left h])]
theorem YI {s:aq}{y:Value}{L:List Lk}(h:aN s 5 y L.length (ki L)){k:Nat}(hk:k<=L.length):aN s 5 (dJ 5 y k L.length) (L.drop k).length (ki (L.drop k)):=by
 have:=h.cut hk (Nat.le_refl _)
 rw[Nd,List.take_of_length_le (by rw[DY,List.length_drop];exact Nat.le_refl _)] at this
 rw[List.length_drop];exact this
theorem afx {s:aq}{y:Value}{L:List Lk}(h:aN s 5 y L.length (ki L)){k:Nat}(hk:k<=L.length):aN s 5 (dJ 5 y 0 k) (L.take k).length (ki (L.take k)):=by
 have:=h.cut (Nat.zero_le k) hk
 rw[Nat.zero_mul,List.drop_zero,Nat.sub_zero,YH L hk] at this
 rw[List.length_take,Nat.min_eq_left hk];exact this
def Ng (M:List Lk)(B:List UInt8):O:= .mk 8 0 B [] (cV [] (kV M))
theorem PX {M:List Lk}(hM:∀l∈M,Nx l)(h8:M.length<=8){B:List UInt8}(hB:B.length<=4000000):Small (Ng M B):=by
 have hN:=Ic hM
 have h2:=EN hN (by omega)
 have h4:=H7 M
 exact H6 (by omega) (by simp) (fun e h=>by cases h) (by simp;omega) (fun e h=>by cases h) h2
theorem Ur {L:List Lk}{b:List UInt8}(h:(wx L b).2=0):(∀l∈L.map fx,Nx l)/\L.length<=8/\(cy (L.map fx) b).2=0/\wx L b=(Ng (L.map fx) (cy (L.map fx) b).1,0):=by
 unfold wx at h|-
 split at h
 ·cases h
 split at h
 ·cases h
 split at h
 ·rename_i h3;exact absurd h h3
 ·rename_i h1 h2 h3
  exact⟨Classical.not_not.1 h1,by omega,Classical.not_not.1 h3,by rw[if_neg h1,if_neg h2,if_neg h3];rfl⟩
theorem RO {L:List Lk}{b:List UInt8}(h1:∀l∈L.map fx,Nx l)(h2:L.length<=8)(h3:(cy (L.map fx) b).2=0):wx L b=(Ng (L.map fx) (cy (L.map fx) b).1,0):=by
 unfold wx
 rw[if_neg (fun h=>h h1),if_neg (by omega),if_neg (fun h=>h h3)];rfl
theorem Us (M:List Lk){k j:Nat}(h:j<=k):M.drop j=(M.take k).drop j++M.drop k:=by
 have:=List.take_append_drop (k-j) (M.drop j)
 rw[List.drop_drop,show j+(k-j)=k by omega] at this
 rw[List.drop_take];exact this.symm
set_option maxHeartbeats 8000000 in
theorem law (s:aq)(x:Value)(b:List UInt8)(y:Value)(L:List Lk)(n:Int)(hw:WF s)(hk:s.next=2)(hx:aN s 1 x b.length (ofBytes b))(hy:aN s 5 y L.length (L.flatMap wy))(hTd:∀d∈L,PV d)(hz:(Lit.int .u8 n).wf=true):
  Runs Tryz.prog df 6 [x,y,.int .u8 n] s fun v _=>v= .bool true:=by
 have hy:aN s 5 y L.length (ki L):=hy
 obtain⟨c,hc,rfl⟩:=afw hz
 obtain⟨QQ,fw⟩:∃QQ:Value->aq->Prop,QQ=fun v _=>v= .bool true:=⟨_,rfl⟩
 rw[<-fw]
 refine Runs.enter 87 Tryz.func6 rfl rfl rfl rfl ?_
 intro f hn hf
 have h0:f.get 0=x:=hf 0
 have h1:f.get 1=y:=hf 1
 have h2:f.get 2= .int .u8 (c:Nat):=hf 2
 clear hf
 simp only[aj,ak,aa,QS,↓reduceIte,hn]
 refine(Runs.closed ab7 afv hk hw).mono ?_
 rintro _ s1 ⟨rfl,bn,_⟩
 have nk:=hx.keeps bn
 have Qa:=hy.keeps bn
 have n1:=bn.next
 by_cases c1:((b.length:Nat):Int)>300
 ·simp only[aj,ak,al,oneOf,aa,QS,Qx,↓reduceIte,undef,hn,h0,nk.bm Tryz.underlying22,eq_true c1,Tryz.results6]
  rw[fw]
 simp only[aj,ak,aa,QS,Qx,↓reduceIte,hn,h0,h1,nk.bm Tryz.underlying22,eq_false c1]
 refine(JY s1 y L Qa hTd).mono ?_
 rintro _ s2 ⟨rfl,t,rfl,ht⟩
 cases t with
 |false=>
  simp only[aj,ak,al,oneOf,QS,Qx,↓reduceIte,hn,Tryz.results6]
  rw[fw]
 |true=>
 have hL:=ht rfl
 have hb:b.length<=300:=by omega
 have UK:=Tryz.underlying35
 obtain⟨k,sj,hkL⟩:∃k:Nat,(c:Int).tmod ((L.length:Nat)+1)=(k:Int)/\k<=L.length:=⟨c%(L.length+1),by rw[Int.tmod_eq_emod_of_nonneg (by omega)];rfl,by have:=Nat.mod_lt c (show 0<L.length+1 by omega);omega⟩
 simp(disch:=omega)only[aj,ak,aa,QS,Qx,↓reduceIte,hn,h0,h1,h2,Qa.bm UK,bL Tryz.underlying5 Tryz.underlying3,aD,fg,sj]
 refine(rL s2 y L Qa (by omega)).mono ?_
 rintro z s3 ⟨hz,hzF,bC⟩
 have n3:=bC.next
 simp only[aj,ak,aa,QS,Qx,↓reduceIte,hn]
 refine(yv s3 x z b L (nk.keeps bC) hz.aG (by omega) (by omega)).mono ?_
 rintro _ s4 ⟨ca,rfl,oa,dX⟩
 have n4:=dX.next
 have la:=oa.len
 have mh:de.length+1=6:=rfl
 have x0:∀a b,ba (.tuple #[a,b]) 0=some a:=fun _ _=>rfl
 have x1:∀a b,ba (.tuple #[a,b]) 1=some b:=fun _ _=>rfl
 simp only[aj,QS,Qx,↓reduceIte,hn,x0,x1,zO,wD]
 refine aw ?_
 intro s5 wE ry hn5
 simp only[aj,QS,Qx,↓reduceIte,hn,mh]
 refine aB iL (by decide) wE rfl rfl (by simpa using la) oa.ok ?_
 intro s6 Q5 YU Tk
 have Q5:ax s6 s4.next ca:=Q5
 have k46:ar s4.next s4 s6:=ry.trans ⟨by omega,fun j hj=>Tk j (by omega)⟩
 have k26:ar s2.next s2 s6:=(bC.trans (dX.weaken n3)).trans (k46.weaken (by omega))
 have oa6:=oa.keeps k46
 have n6:=k46.next
 by_cases ce:(wx L b).2=0
 rotate_left
 ·simp only[aj,ak,al,oneOf,QS,Qx,↓reduceIte,undef,hn,decide_not,decide_eq_false ce,Tryz.results6]
  rw[fw]
 obtain⟨dH,h8,hdz,heq⟩:=Ur ce
 obtain⟨M,hM⟩:∃M,M=L.map fx:=⟨_,rfl⟩
 rw[<-hM] at dH hdz heq
 have hMl:M.length=L.length:=by rw[hM,List.length_map]
 have hMd:(L.drop k).map fx=M.drop k:=by rw[hM,List.map_drop]
 have hMt:(L.take k).map fx=M.take k:=by rw[hM,List.map_take]
 have aoU:∀l∈M.drop k,Nx l:=fun l hl=>dH l (List.mem_of_mem_drop hl)
 have YJ:∀l∈M.take k,Nx l:=fun l hl=>dH l (List.mem_of_mem_take hl)
 have cf:∀j,(cy (M.drop j) b).1.length<=1360000:=fun j=>(M8 (by rw[List.length_drop];omega) (by omega)).1
 have aoV:∀j,2*(cy (M.drop (j+1)) b).1.length<=1048576:=fun j=>(M8 (by rw[List.length_drop];omega) (by omega)).2 (by rw[List.length_drop];omega)
 have hdk:=Ik hdz k
 obtain⟨C,hC⟩:∃C,C=(cy (M.drop k) b).1:=⟨_,rfl⟩
 have hj:∀j,j<=k->cy ((M.take k).drop j) C=cy (M.drop j) b:=fun j h=>by rw[Us M h,Nb hdk,hC]
 have N4:∀j,(cy ((M.take k).drop j) C).1.length<=1360000:=fun j=>by
  by_cases h:j<=k
  ·rw[hj j h];exact cf j
  ·have e:(M.take k).drop j=[]:=List.drop_of_length_le (by rw[List.length_take];omega)
   rw[e,hC];exact cf k
 have eC:cy (M.take k) C=cy M b:=hj 0 (by omega)
 have hy6:=Qa.keeps k26
 have hx6:=nk.keeps k26
 have pE:=hy6.ff (P:=Tryz.prog) UK RN (k:= .i64) (x:=(k:Int)) (by omega) (by omega)
 rw[Int.toNat_natCast] at pE
 simp only[aj,ak,aa,ai,QS,Qx,↓reduceIte,undef,hn,h0,h1,decide_not,decide_eq_true ce,pE]
 refine(rL s6 _ (L.drop k) (YI hy6 hkL) (by rw[List.length_drop];omega)).mono ?_
 rintro z7 s7 ⟨hz7,aun,jX⟩
 have n7:=jX.next
 simp only[aj,ak,aa,QS,Qx,↓reduceIte,hn]
 refine(yv s7 x z7 b (L.drop k) (hx6.keeps jX) hz7.aG (by omega) (by rw[List.length_drop];omega)).mono ?_
 rw[RO (L:=L.drop k) (b:=b) (by rw[hMd];exact aoU) (by rw[List.length_drop];omega) (by rw[hMd];exact hdk),hMd,<-hC]
 rintro _ s8 ⟨cb,rfl,ob,Jm⟩
 have n8:=Jm.next
 have lb:=ob.len
 simp only[aj,QS,Qx,↓reduceIte,hn,x0,x1,zO,wD]
 refine aw ?_
 intro s9 ht9 rq hn9
 simp only[aj,QS,Qx,↓reduceIte,hn,mh]
 refine aB iL (by decide) ht9 rfl rfl (by simpa using lb) ob.ok ?_
 intro vf PM afa aoW
 have PM:ax vf s8.next cb:=PM
 have Py:ar s8.next s8 vf:=rq.trans ⟨by omega,fun j hj=>aoW j (by omega)⟩
 have n10:=Py.next
 have afy:ar s6.next s6 vf:=(jX.trans (Jm.weaken n7)).trans (Py.weaken (by omega))
 have aoX:=ob.keeps Py
 simp only[aj,QS,Qx,↓reduceIte,undef,hn]
 have Tn:=hy6.keeps afy
 obtain⟨cv,zS,wR⟩:∃cv,cb.getD 2 undef=cv/\aN vf 1 cv C.length (ofBytes C):=by
  obtain⟨bv,lv,dv,lc,dc,rfl,h1,-⟩:=aoX.parts;exact⟨bv,rfl,h1⟩
 have hCl:C.length<=1360000:=by rw[hC];exact cf k
 obtain⟨A,hA⟩:∃A:Nat->Bool,A=fun j=>decide (j<vf.next):=⟨_,rfl⟩
 have iU:∀j,A j=true->j<vf.next:=by
  intro j h
  rw[hA] at h
  exact of_decide_eq_true h
 have hAn:∀j,vf.next<=j->A j=false:=fun j h=>by rw[hA];exact decide_eq_false (by omega)
 have ly:LA.ej A (some y)=true:=LA.V9 Tn fun i h=>by rw[hA];exact decide_eq_true h
 have hA1:A s8.next=true:=by rw[hA];exact decide_eq_true PM.lt
 refine LB.cX.fi A iU 2 1 (by kernel_rfl) (by kernel_rfl) ?_
 have dC:=ar.spare vf 1
 have UD:(spare vf 1).next=vf.next+1:=bU _ _
 have tC:=(Tn.keeps dC).iS (P:=Tryz.prog) UK RN (k:= .i64) (y:=(k:Int)) (by omega) (by omega)
 rw[Int.toNat_natCast] at tC
 have lo1:∀k,LA.ej A (some (.pointer (some ⟨s8.next,k,some 6⟩)))=true:=fun k=>LA.cr (A:=A) (i:=s8.next) hA1
 have p1:∀t,ar (spare vf 1).next (spare vf 1) t->aJ Tryz.prog t 22 (.pointer (some ⟨s8.next,2,some 6⟩))=some cv:=fun t h=>by
  have:=((PM.keeps dC).keeps h).load (P:=Tryz.prog) fU (off:=2) (c:=6) (by omega) (by omega)
  rw[this,zS]
 simp only[aj,ak,bH,bI,Nat.sub_self,Nat.add_one_sub_one,aa,ai,QS,Qx,↓reduceIte,hn,h1,of2,lo1,p1 _ (ar.refl _ _),tC,ly,Tn.self,wR.self]
 refine(rL (spare vf 1) _ (L.take k) (afx (Tn.keeps dC) hkL) (by rw[List.length_take];omega)).mono ?_
 rintro z12 yF ⟨abq,aqS,k12⟩
 have n12:=k12.next
 refine⟨fun _=>LA.ar.yC iU (k12.weaken (by omega)),?_⟩
 have ajQ:ar vf.next vf yF:=dC.trans (k12.weaken (by omega))
 refine(yu yF cv z12 C (L.take k) (wR.keeps ajQ) abq.aG (fun _=>by rw[hMt,eC];have:=cf 0;simp only[List.drop_zero] at this;omega) (fun _ j=>by rw[hMt];have:=N4 (j+1);omega) (by rw[List.length_take];omega)).mono ?_
 rw[RO (L:=L.take k) (b:=C) (by rw[hMt];exact YJ) (by rw[List.length_take];omega) (by rw[hMt,eC];exact hdz),hMt,eC]
 rintro _ s13 ⟨cc,rfl,oc,k13⟩
 have n13:=k13.next
 have lc:=oc.len
 refine⟨fun _=>LA.ar.yC iU (k13.weaken (by omega)),?_⟩
 have vt:bZ (.tuple #[.agg cc.toArray,.int .i64 0]) (.tuple #[.agg cc.toArray,.int .i64 0])=true:=by
  have h:fp cc cc=true:=oc.self
  simp[bZ,qI,yH,cN,h]
 simp only[aj,bH,bI,QS,Qx,↓reduceIte,hn,x0,x1,zO,wD,vt,oc.self]
 refine LB.kK (by omega) ?_
 intro t1 eK g8 hg1
 simp only[aj,bI,QS,Qx,↓reduceIte,hn,mh]
 refine LB.ct iL (by decide) eK rfl rfl (by simpa using lc) oc.ok (fun _=>hAn _ (by omega)) ?_
 intro t2 dD g9 hg2
 have dD:ax t2 vf.next cc:=dD
 have hg:∀j,j≠vf.next->t2.heap.get j=s13.heap.get j:=fun j h=>(hg2 j h).trans (hg1 j h)
 have B4:t2.next=s13.next:=by omega
 have oc2:=oc.aK B4 hg (by show¬yF.next<=vf.next;omega)
 have abA:ar vf.next vf t2:=(ajQ.trans (k13.weaken (by omega))).trans ⟨by omega,fun j hj=>hg j (by omega)⟩
 obtain⟨B,hB⟩:∃B,B=(cy M b).1:=⟨_,rfl⟩
 have Ln:B.length<=1360000:=by rw[hB];exact cf 0
 rw[<-hB] at oc2
 have oat:=(oa6.keeps afy).keeps abA
 rw[heq,<-hB] at oat
 have aoZ:=(Q5.keeps afy).keeps abA
 obtain⟨av,hav,has⟩:∃v,ca.getD 2 undef=v/\aN t2 1 v B.length (ofBytes B):=by
  obtain⟨bv,lv,dv,lc,dc,rfl,h1,-⟩:=oat.parts;exact⟨bv,rfl,h1⟩
 obtain⟨ev,hev,zN⟩:∃v,cc.getD 2 undef=v/\aN t2 1 v B.length (ofBytes B):=by
  obtain⟨bv,lv,dv,lc,dc,rfl,h1,-⟩:=oc2.parts;exact⟨bv,rfl,h1⟩
 have la2:aJ Tryz.prog t2 22 (.pointer (some ⟨s4.next,2,some 6⟩))=some av:=by
  have:=aoZ.load (P:=Tryz.prog) fU (off:=2) (c:=6) (by omega) (by omega)
  rw[this,hav]
 have le2:aJ Tryz.prog t2 22 (.pointer (some ⟨vf.next,2,some 6⟩))=some ev:=by
  have:=dD.load (P:=Tryz.prog) fU (off:=2) (c:=6) (by omega) (by omega)
  rw[this,hev]
 have d0:((0:Int)≠0)=False:=by simp
 simp only[aj,ak,bH,bI,Nat.reduceSub,QS,Qx,↓reduceIte,hn]
 simp only[aj,ak,aa,QS,Qx,↓reduceIte,hn,of2,la2,le2]
 refine(K6 (lib:=df) rfl t2 ev av B B zN has (by omega) (by omega)).mono ?_
 rintro _ t2 ⟨rfl,rfl⟩
 simp only[aj,ak,aa,QS,Qx,↓reduceIte,hn,ax.gl dD lc]
 have afz:(M.take k).length<=8:=by rw[List.length_take];omega
 obtain⟨u1,u2⟩:=EW (m:=1048576) (by omega) (b:=C) (M.take k) (fun l hl=>(YJ l hl).1) (by rw[eC];exact hdz) (fun j=>by have:=N4 j;omega) (fun j hj2=>by
  rw[List.length_take] at hj2
  rw[hj (j+1) (by omega)]
  have:=aoV j;omega)
 rw[eC,<-hB] at u1 u2
 have UF:=EU (M.take k) YJ afz B
 refine(M0 _ t2 cc _ oc2 (PX YJ afz (by omega)) 1048576 (by omega) (by show(gU (Ng _ _)).1.length<=_;unfold Ng;rw[UF];simp;omega) (by show Ia (gU (Ng _ _)).1 B _;unfold Ng;rw[UF];exact u2)).mono ?_
 have kP:PO (Ng (M.take k) B) 1048576=(C,0):=(yx YJ afz B _).trans u1
 rw[kP]
 rintro _ u ⟨w,rfl,hw⟩
 have ku:=hw.stay
 have z0:∀q,ba (.tuple #[w,q]) 0=some w:=fun _=>rfl
 have z1:∀q,ba (.tuple #[w,q]) 1=some q:=fun _=>rfl
 have l2u:aJ Tryz.prog u 22 (.pointer (some ⟨s8.next,2,some 6⟩))=some cv:=by
  have:=((PM.keeps abA).keeps ku).load (P:=Tryz.prog) fU (off:=2) (c:=6) (by omega) (by omega)
  rw[this,zS]
 simp only[aj,ak,aa,QS,Qx,↓reduceIte,hn,z0,z1,of2,l2u]
 refine(K6 (lib:=df) rfl u w cv C C hw.own.aG ((wR.keeps abA).keeps ku) (by omega) (by omega)).mono ?_
 rintro _ u ⟨rfl,rfl⟩
 simp only[aj,al,oneOf,QS,Qx,↓reduceIte,hn,Tryz.results6]
 rw[fw]
theorem own:ownKnob Tryz.prog.godebug=none:=by kernel_rfl
theorem sound:BP Tryz.prog df=true:=by kernel_rfl
theorem laid:laidOutB Tryz.prog=true:=by kernel_rfl
theorem read:∀t∈Tryz.f6.params.toList,Tryz.prog.readableRec t=true/\t<Tryz.prog.types.size:=by
 have:(Tryz.f6.params.toList.all fun t=>Tryz.prog.readableRec t&&decide (t<Tryz.prog.types.size))=true:=by kernel_rfl
 intro t ht
 simpa using List.all_eq_true.mp this t ht
theorem abB:Tryz.prog.cellsOf 5=1:=by kernel_rfl
theorem lifted (os:Os)(started:os.Started)(H:Type)(enc:TypeId×Value->H):
  ReturnsInHanded {} Tryz.checked os 6 .any (Rows.chainOrderSpec.pre6 enc Tryz.prog Tryz.f6 Rows.chainOrderRow.domain false) (Rows.chainOrderSpec.post enc Tryz.prog Tryz.f6 false true false false):=by
 refine returnsInHanded_of_change (C:=Tryz.checked) own started (by kernel_rfl) Tryz.func6
  (ChangeSpec.witness6 (enc:=enc) (C:=Tryz.checked) false ⟨#[], #[.slice none 0 0,.slice none 0 0,.int .u8 0],[]⟩ 8 (by kernel_rfl) (by kernel_rfl) (by kernel_rfl) (by kernel_rfl)) ?_
 intro W base args ds gs before IX hW aus _
 obtain⟨p,q,hA,_,_,_,_⟩:=id hW
 have hA:DataW.TrodAll enc Tryz.prog W 0 (fun _=>true) true Tryz.f6.params.toList args.toList ds p:=hA
 rw[Tryz.params6] at hA
 obtain⟨v0,v1,v2,d0,d1,d2,p0,p1,p2,rfl,rfl,rfl,h0,h1,h2⟩:=trodAll_three hA
 have hv0:Value.okWide Tryz.prog W .any base 22 v0:=IX 0 _ _ (by rw[Tryz.params6];rfl) rfl
 have hv1:Value.okWide Tryz.prog W .any base 35 v1:=IX 1 _ _ (by rw[Tryz.params6];rfl) rfl
 have Ke:Value.okWide Tryz.prog W .any base 5 v2:=IX 2 _ _ (by rw[Tryz.params6];rfl) rfl
 obtain⟨S0,x0,l0,hj0,Bo⟩:=(nN.start W).bytes Tryz.underlying22 Tryz.underlying5 abB hv0 h0
 obtain⟨S1,x1,l1,Xs,nk,hz1⟩:=hj0.begun.rows wy PV Tryz.underlying35 EX (by decide) YG YE abz hv1 h1
 obtain⟨n2,rfl,_,_,Uw⟩:=open_int Tryz.underlying5 Ke h2
 have Cr:=Runs.adT ab7 (ahx _) sound rfl Xs.begun (law S1.s x0 l0 x1 l1 n2 Xs.begun.sr.wf (by rw[Xs.next];rw[hj0.next];rfl) (Bo.keeps Xs.stay) nk hz1 Uw) (args' := #[v0,v1,.int .u8 n2]) (eR.cons (hj0.vr.mono Xs.ext) (eR.cons Xs.vr (eR.cons (.int _ _) eR.nil)))
 refine Cr.mono fun e W' ⟨he,hb⟩=> ?_
 subst he
 exact VF laid read rfl Tryz.underlying4 rfl (fun L hL=>by match L,hL with|[a0,a1,a2],_=>rfl) hW hb
theorem over:Rows.chainOrderRow.holds Tryz.pinned (OpenSpec.ofChange Rows.chainOrderSpec):=
 OpenClaim.holds_of_wide 6 Tryz.f6 rfl rfl rfl rfl rfl rfl rfl ⟨rfl,rfl,rfl,rfl,rfl⟩ rfl rfl rfl rfl rfl (by kernel_rfl) Tryz.func6 (by kernel_rfl)
  (of_decide_eq_true (by kernel_rfl)) (by unfold Func.isWrapper;first|(rw[if_pos (by decide+kernel)];kernel_rfl)|(rw[if_neg (by decide+kernel)];exact⟨rfl,rfl⟩))
  (fun os started H enc _=>lifted os started H enc)
theorem proved:Rows.ChainOrderSaid:=over
#print axioms proved
end Go.Proofs.YtdfjfncifneocaaGreat.chainOrder
