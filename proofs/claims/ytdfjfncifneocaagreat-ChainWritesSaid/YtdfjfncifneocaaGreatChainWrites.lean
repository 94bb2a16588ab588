/-
  The statement ChainWrites: any bytes through any links: program and reference make the same stream, or refuse alike: the law returns true.
  Conditions: none.
-/
import Derived.Test.YtdfjfncifneocaaGreatRows
import Derived.Test.YtdfjfncifneocaaGreatDraw
import Derived.ChangeMaps5
import Derived.Test.YtdfjfncifneocaaGreatChI
import Derived.Test.YtdfjfncifneocaaGreatChJ
import Derived.Test.YtdfjfncifneocaaGreatClearW
set_option linter.unusedSimpArgs false
set_option linter.unusedVariables false
set_option maxRecDepth 100000
namespace Go.Proofs.YtdfjfncifneocaaGreat.chainWrites
open Go.ChangeShapes Go.WideShapes Go.ChangeAt Go.RowKit Go.Cl Go.Cl.Pr Go.Cl.Ch
theorem XJ:q7 (fx Tryz.prog cQ 100000 9 [] ⟨.nil,2⟩)=true:=by kernel_rfl
theorem K9 {L:List Lk}{b:List UInt8}(hb:b.length<=400):Small (qU L b).1:=by
 unfold qU
 split
 ·exact Small.none
 split
 ·exact Small.none
 split
 ·exact Small.none
 ·rename_i h1 h2 h3
  have h1:=Classical.not_not.1 h1
  have hN:=x9 h1
  have hl:(L.map dp).length<=8:=by rw[List.length_map];omega
  have:=uQ (b:=b) hl hb
  have h2:=CB hN (by omega)
  have h4:=EK (L.map dp)
  exact EJ (by omega) (by simp) (fun e h=>by cases h) (by simp;omega) (fun e h=>by cases h) h2
set_option maxHeartbeats 8000000 in
theorem law (s:aq)(x:Value)(b:List UInt8)(y:Value)(L:List Lk)(hw:WF s)(hk:s.next=2)(hx:aM s 1 x b.length (ofBytes b))(hy:aM s 5 y L.length (L.flatMap uR))(hTd:∀d∈L,K7 d):
  Runs Tryz.prog cQ 4 [x,y] s fun v _=>v= .bool true:=by
 have hy:aM s 5 y L.length (kD L):=hy
 refine Runs.enter 40 Tryz.func4 rfl rfl rfl rfl ?_
 intro f hn hf
 have h0:f.get 0=x:=hf 0
 have h1:f.get 1=y:=hf 1
 clear hf
 simp-implicitDefEqProofs(disch:=omega)only[ai,aj,ad,Nat.reduceLT,↓reduceIte,hn]
 refine(Runs.closed U6 XJ hk hw).mono ?_
 rintro _ s1 ⟨rfl,bB,_⟩
 have iU:=hx.keeps bB
 have zC:=hy.keeps bB
 have n1:=bB.next
 by_cases c1:(400:Int)<((b.length:Nat):Int)
 ·have d1:decide ((400:Int)<((b.length:Nat):Int))=true:=decide_eq_true c1
  simp-implicitDefEqProofs(disch:=omega)only[ai,aj,ad,Nat.reduceLT,Nat.reduceEqDiff,↓reduceIte,undef,hn,h0,iU.aV Tryz.underlying22,d1]
  simp-implicitDefEqProofs(disch:=omega)only[ai,al,oneOf,Nat.reduceLT,↓reduceIte,hn,Tryz.results4]
 simp-implicitDefEqProofs(disch:=omega)only[ai,aj,ad,Nat.reduceLT,Nat.reduceEqDiff,↓reduceIte,hn,h0,h1,iU.aV Tryz.underlying22,eq_false c1]
 refine(Gt s1 y L zC hTd).mono ?_
 rintro _ s2 ⟨rfl,t,rfl,ht⟩
 cases t with
 |false=>
  simp-implicitDefEqProofs(disch:=omega)only[ai,aj,al,oneOf,Nat.reduceLT,Nat.reduceEqDiff,↓reduceIte,hn,Tryz.results4]
 |true=>
 have hL:=ht rfl
 have hb:b.length<=400:=by omega
 simp-implicitDefEqProofs(disch:=omega)only[ai,aj,ad,Nat.reduceLT,Nat.reduceEqDiff,↓reduceIte,hn,h0,h1]
 refine(Gs s2 y L zC (by omega)).mono ?_
 rintro z s3 ⟨hz,NP,cf⟩
 have n3:=cf.next
 simp-implicitDefEqProofs(disch:=omega)only[ai,aj,ad,Nat.reduceLT,Nat.reduceEqDiff,↓reduceIte,hn]
 refine(Gp s3 x z b L (iU.keeps cf) hz.aH hb (by omega)).mono ?_
 rintro _ s4 ⟨ca,rfl,oa,iH⟩
 have n4:=iH.next
 have la:=oa.len
 have il:cr.length+1=6:=rfl
 have x0:∀a b,cN (.tuple #[a,b]) 0=some a:=fun _ _=>rfl
 have x1:∀a b,cN (.tuple #[a,b]) 1=some b:=fun _ _=>rfl
 simp-implicitDefEqProofs(disch:=omega)only[ai,Nat.reduceLT,Nat.reduceEqDiff,↓reduceIte,hn,x0,x1,zO,oQ]
 refine aw ?_
 intro s5 sm xW Vl
 simp-implicitDefEqProofs(disch:=omega)only[ai,Nat.reduceLT,Nat.reduceEqDiff,↓reduceIte,hn,il]
 refine aE eO (by decide) sm rfl rfl (by simpa using la) oa.ok ?_
 intro s6 N5 F3 Ie
 have N5:av s6 s4.next ca:=N5
 have k46:ar s4.next s4 s6:=xW.trans ⟨by omega,fun j hj=>Ie j (by omega)⟩
 have k26:ar s2.next s2 s6:=(cf.trans (iH.weaken n3)).trans (k46.weaken (by omega))
 have oa6:=oa.keeps k46
 have n6:=k46.next
 simp-implicitDefEqProofs(disch:=omega)only[ai,aj,ad,Nat.reduceLT,Nat.reduceEqDiff,↓reduceIte,undef,hn,h0,h1]
 refine(Dx s6 x y b L (iU.keeps k26) (zC.keeps k26) hb (by omega)).mono ?_
 rintro _ s7 ⟨cb,rfl,ob,fH⟩
 have n7:=fH.next
 have lb:=ob.len
 simp-implicitDefEqProofs(disch:=omega)only[ai,Nat.reduceLT,Nat.reduceEqDiff,↓reduceIte,hn,x0,x1,zO,oQ]
 refine aw ?_
 intro s8 yY jL Wh
 simp-implicitDefEqProofs(disch:=omega)only[ai,Nat.reduceLT,Nat.reduceEqDiff,↓reduceIte,hn,il]
 refine aE eO (by decide) yY rfl rfl (by simpa using lb) ob.ok ?_
 intro s9 RH Zr hs9
 have RH:av s9 s7.next cb:=RH
 have k79:ar s7.next s7 s9:=jL.trans ⟨by omega,fun j hj=>hs9 j (by omega)⟩
 have k69:ar s6.next s6 s9:=fH.trans (k79.weaken n7)
 have la9:=av.dQ (N5.keeps k69) la
 have lb9:=av.dQ RH lb
 have tz:=K9 (L:=L) hb
 simp-implicitDefEqProofs(disch:=omega)only[ai,aj,ad,Nat.reduceLT,Nat.reduceEqDiff,↓reduceIte,undef,hn,la9,lb9]
 refine(N2 (lib:=cQ) rfl rfl _ _ _ (Nat.le_refl _) _ _ _ _ _ (oa6.keeps k69) (ob.keeps k79) tz tz).mono ?_
 rintro _ Vj ⟨⟨v3,rfl,e3⟩,k3⟩
 obtain rfl:v3=true:=e3.2 (gA.self _)
 simp-implicitDefEqProofs(disch:=omega)only[ai,al,oneOf,Nat.reduceLT,Nat.reduceEqDiff,↓reduceIte,hn,Tryz.results4]
theorem own:ownKnob Tryz.prog.godebug=none:=by kernel_rfl
theorem sound:zY Tryz.prog cQ=true:=by kernel_rfl
theorem laid:laidOutB Tryz.prog=true:=by kernel_rfl
theorem read:∀t∈Tryz.f4.params.toList,Tryz.prog.readableRec t=true/\t<Tryz.prog.types.size:=by
 have:(Tryz.f4.params.toList.all fun t=>Tryz.prog.readableRec t&&decide (t<Tryz.prog.types.size))=true:=by kernel_rfl
 intro t ht
 simpa using List.all_eq_true.mp this t ht
theorem Us:Tryz.prog.cellsOf 5=1:=by kernel_rfl
set_option maxRecDepth 100000 in
theorem lifted (os:Os)(started:os.Started)(H:Type)(enc:TypeId×Value->H):
  ReturnsInHanded {} Tryz.checked os 4 .any (Rows.chainWritesSpec.pre6 enc Tryz.prog Tryz.f4 Rows.chainWritesRow.domain false) (Rows.chainWritesSpec.post enc Tryz.prog Tryz.f4 false true false false):=by
 refine returnsInHanded_of_change (C:=Tryz.checked) own started (by kernel_rfl) Tryz.func4
  (ChangeSpec.witness6 (enc:=enc) (C:=Tryz.checked) false ⟨#[], #[.slice none 0 0,.slice none 0 0],[]⟩ 8 (by kernel_rfl) (by kernel_rfl) (by kernel_rfl) (by kernel_rfl)) ?_
 intro W base args ds gs before Hn hW ajh _
 obtain⟨p,q,hA,_,_,_,_⟩:=id hW
 have hA:DataW.TrodAll enc Tryz.prog W 0 (fun _=>true) true Tryz.f4.params.toList args.toList ds p:=hA
 rw[Tryz.params4] at hA
 obtain⟨v0,v1,d0,d1,p0,p1,rfl,rfl,rfl,h0,h1⟩:=trodAll_two hA
 have hv0:Value.okWide Tryz.prog W .any base 22 v0:=Hn 0 _ _ (by rw[Tryz.params4];rfl) rfl
 have UE:Value.okWide Tryz.prog W .any base 35 v1:=Hn 1 _ _ (by rw[Tryz.params4];rfl) rfl
 obtain⟨S0,x0,l0,hj0,GU⟩:=(mh.start W).bytes Tryz.underlying22 Tryz.underlying5 Us hv0 h0
 obtain⟨S1,x1,l1,Tn,iU,Dq⟩:=hj0.begun.rows uR K7 Tryz.underlying35 CJ (by decide) R1 RZ Ur UE h1
 have Ax:=Runs.Ww U6 (Zm _) sound rfl Tn.begun (law S1.s x0 l0 x1 l1 Tn.begun.sr.wf (by rw[Tn.next];rw[hj0.next];rfl) (GU.keeps Tn.stay) iU Dq) (args' := #[v0,v1]) (eX.cons (hj0.vr.mono Tn.ext) (eX.cons Tn.vr eX.nil))
 refine Ax.mono fun e W' ⟨he,hb⟩=> ?_
 subst he
 exact PQ laid read rfl Tryz.underlying4 rfl (fun L hL=>by match L,hL with|[a0,a1],_=>rfl) hW hb
theorem over:Rows.chainWritesRow.holds Tryz.pinned (OpenSpec.ofChange Rows.chainWritesSpec):=
 OpenClaim.holds_of_wide 4 Tryz.f4 rfl rfl rfl rfl rfl rfl rfl ⟨rfl,rfl,rfl,rfl,rfl⟩ rfl rfl rfl rfl rfl (by kernel_rfl) Tryz.func4 (by kernel_rfl)
  (of_decide_eq_true (by kernel_rfl)) (by unfold Func.isWrapper;first|(rw[if_pos (by decide+kernel)];kernel_rfl)|(rw[if_neg (by decide+kernel)];exact⟨rfl,rfl⟩))
  (fun os started H enc _=>lifted os started H enc)
theorem proved:Rows.ChainWritesSaid:=over
#print axioms proved
end Go.Proofs.YtdfjfncifneocaaGreat.chainWrites
