/-
  The statement ChainBound: any bytes through any plain links, with just the room that they need, come back; with less room the bound is met: the law returns true.
  Conditions: none.
-/
import Derived.Test.YtdfjfncifneocaaGreatRows
import Derived.Test.YtdfjfncifneocaaGreatDraw
import Derived.ChangeMaps5
import Derived.Test.YtdfjfncifneocaaGreatBoD
import Derived.Test.YtdfjfncifneocaaGreatBoE
import Derived.Test.YtdfjfncifneocaaGreatNfY
import Derived.Test.YtdfjfncifneocaaGreatLooseA
open Nat renaming reduceLT->QS,reduceEqDiff->WP
set_option linter.unusedSimpArgs false
set_option linter.unusedVariables false
set_option maxRecDepth 100000
namespace Go.Proofs.YtdfjfncifneocaaGreat.chainBound
open Go.ChangeShapes Go.WideShapes Go.ChangeAt Go.RowKit Go.Cl Go.Cl.Pr Go.Cl.Ch
theorem adl:rF (gV Tryz.prog eC 100000 9 [] ⟨.nil,2⟩)=true:=by kernel_rfl
def pick (c:UInt8):Lk:=⟨0,0,0,mG.getD (c.toNat%5) [],0⟩
theorem Oi (c:UInt8):kV (fG (pick c)):=by
 have h:mG.getD (c.toNat%5) []∈mG:=by
  have:∀k,k<5->mG.getD k []∈mG:=by decide
  exact this _ (Nat.mod_lt _ (by decide))
 exact⟨h,rfl,rfl,rfl⟩
theorem Ha {L:List Lk}(h:∀l∈L.map fG,kV l)(h8:L.length<=8)(b:List UInt8):EM L b=(.mk 8 0 (df (L.map fG) b).1 [] (cX [] (jN (L.map fG))),0):=by
 unfold EM
 rw[if_neg (fun hn=>hn (fun l hl=>by obtain⟨a,b,c,d⟩:=h l hl;exact⟨a,by rw[b,c,d];exact Wu⟩)),if_neg (by omega),if_neg (fun hn=>hn (yM _ h b))]
theorem aho {L:List Lk}{b:List UInt8}(hL:L.length<=4)(hb:b.length<=300):(df L b).1.length<=65535:=by
 have h:=AP L b
 obtain⟨n,hn⟩:∃n,n=L.length:=⟨_,rfl⟩
 rw[<-hn] at h hL
 match n,hL with
 |0,_=>omega
 |1,_=>omega
 |2,_=>omega
 |3,_=>omega
 |4,_=>omega
theorem ahp (n:Nat):((n:Int)).tmod 5=((n%5:Nat):Int):=by rw[Int.tmod_eq_emod_of_nonneg (by omega)];omega
theorem Lx:∀(L:List Lk) (i:Nat),(mP L).drop (i*5)=mP (L.drop i)
 |_,0=>by simp
 |[],i+1=>by simp[mP]
 |l::r,i+1=>by
  have e:mP (l::r)=l.cells++mP r:=by simp[mP]
  rw[e,List.drop_succ_cons,<-Lx r i,show(i+1)*5=l.cells.length+i*5 by rw[Lk.H9];omega,<-List.drop_drop,List.drop_left]
theorem Oj {M:List Lk}(hM:∀l∈M,kV l)(h8:M.length<=8){B:List UInt8}(hB:B.length<=100000):Small (.mk 8 0 B [] (cX [] (jN M))):=by
 have hN:=G7 (M:=M) (fun l hl=>by obtain⟨a,b,c,d⟩:=hM l hl;exact⟨a,by rw[b,c,d];exact Wu⟩)
 have h2:=DM hN (by omega)
 have h4:=G1 M
 exact GZ (by omega) (by simp) (fun e h=>by cases h) (by simp;omega) (fun e h=>by cases h) h2
theorem Hb {M:List Lk}(hM:∀l∈M,kV l)(h8:M.length<=8)(B:List UInt8)(m:Int):So (.mk 8 0 B [] (cX [] (jN M))) m=gm M B m:=by
 unfold So
 rw[Aa M hM h8 B,if_neg (fun h=>h rfl),if_neg (fun h=>h (fun l hl=>by obtain⟨a,ha,rfl⟩:=List.mem_map.1 hl;exact(hM a ha).1)),Ac]
 rfl
set_option maxHeartbeats 8000000 in
theorem law (s:aq)(x:Value)(b:List UInt8)(y:Value)(N:List UInt8)(hw:WF s)(hk:s.next=2)(hx:aN s 1 x b.length (ofBytes b))(hy:aN s 1 y N.length (ofBytes N)):
  Runs Tryz.prog eC 5 [x,y] s fun v _=>v= .bool true:=by
 obtain⟨QQ,gp⟩:∃QQ:Value->aq->Prop,QQ=fun v _=>v= .bool true:=⟨_,rfl⟩
 rw[<-gp]
 refine Runs.enter 109 Tryz.func5 rfl rfl rfl rfl ?_
 intro f hn hf
 have h0:f.get 0=x:=hf 0
 have h1:f.get 1=y:=hf 1
 clear hf
 simp-implicitDefEqProofs(disch:=omega)only[aj,ak,ad,QS,↓reduceIte,hn]
 refine(Runs.closed ZJ adl hk hw).mono ?_
 rintro _ s1 ⟨rfl,bm,_⟩
 have lM:=hx.keeps bm
 have LD:=hy.keeps bm
 have n1:=bm.next
 by_cases c1:((b.length:Nat):Int)>300
 ·simp-implicitDefEqProofs(disch:=omega)only[aj,ak,al,oneOf,ad,QS,WP,↓reduceIte,undef,hn,h0,lM.bh Tryz.underlying22,eq_true c1,Tryz.results5]
  rw[gp]
 by_cases c2:((N.length:Nat):Int)>4
 ·simp-implicitDefEqProofs(disch:=omega)only[aj,ak,al,oneOf,ad,QS,WP,↓reduceIte,undef,hn,h0,h1,lM.bh Tryz.underlying22,LD.bh Tryz.underlying22,eq_false c1,eq_true c2,Tryz.results5]
  rw[gp]
 by_cases c3:((b.length:Nat):Int)=0
 ·simp-implicitDefEqProofs(disch:=omega)only[aj,ak,al,oneOf,ad,QS,WP,↓reduceIte,hn,h0,h1,lM.bh Tryz.underlying22,LD.bh Tryz.underlying22,eq_false c1,eq_false c2,eq_true c3,Tryz.results5]
  rw[gp]
 have UK:=Tryz.underlying31
 have IQ:bW Tryz.prog 58=some (fC ⟨0,0,0,[],0⟩):=by kernel_rfl
 have vo:bP (fC ⟨0,0,0,[],0⟩)=true:=by kernel_rfl
 have Wo:fe Tryz.prog 58=some 48:=by kernel_rfl
 simp-implicitDefEqProofs(disch:=omega)only[aj,ak,ad,ae,QS,WP,↓reduceIte,hn,h0,h1,lM.bh Tryz.underlying22,LD.bh Tryz.underlying22,eq_false c1,eq_false c2,eq_false c3,uH UK cV IQ vo rfl]
 refine aQ (by rfl) ?_
 intro v0 s2 Y7 alY k2
 have Yl:aL Tryz.prog s2 27 5 [(0,.string ⟨gC.toArray⟩),(1,.string ⟨yq.toArray⟩),(2,.string ⟨sM.toArray⟩),(3,.string ⟨Kq.toArray⟩),(4,.string ⟨yu.toArray⟩)]=aZ s2 (JK mG) 5 1:=OY Tryz.underlying27 CE ZV rfl ⟨_,rfl⟩ rfl rfl rfl rfl rfl
 unfold gC yq sM Kq yu at Yl
 simp-implicitDefEqProofs(disch:=omega)only[aj,ae,QS,↓reduceIte,hn,Yl]
 refine aQ (by rfl) ?_
 intro z s3 hz hzF k3
 have n2:=k2.next
 have n3:=k3.next
 have k13:ar s1.next s1 s3:=k2.trans (k3.weaken n2)
 simp-implicitDefEqProofs(disch:=omega)only[aj,QS,↓reduceIte,hn]
 refine Comes.bK (fun q f t=>∃(i:Nat) (v:Value),q=N.length-i/\i<=N.length/\Own t 5 v i (mP ((N.take i).map pick))/\aH s1.next v/\(∀j,aE v=some j->aE z≠some j)/\aN t 1 z 5 (JK mG)/\s3.next<=t.next/\ar s1.next s1 t/\f.n=109/\f.get 0=x/\f.get 1=y/\f.get 5=v/\f.get 6=z/\f.get 7= .int .i64 (i:Nat))
  (fun q f t=>q= .exit 0/\∃(v:Value),Own t 5 v N.length (mP (N.map pick))/\aH s1.next v/\ar s1.next s1 t/\f.n=109/\f.get 0=x/\f.get 5=v)
  ⟨0,v0,rfl,by omega,by rw[List.take_zero];exact Y7.keeps k3,alY,(fun j e e2=>by have h1:=Y7.g8 j e;have h2:=hzF j e2;omega),hz.aG,Nat.le_refl _,k13,by simp only[ag,hn],by simp only[aa,↓reduceIte,WP,h0],by simp only[aa,↓reduceIte,WP,h1],by simp only[aa,↓reduceIte,WP],by simp only[aa,↓reduceIte,WP],by simp only[aa,↓reduceIte];rfl⟩ ?_ ?_
 ·clear hn h0 h1 f
  rintro Q hQ q f t ⟨i,v,rfl,hi,hv,IK,ck,hzt,h3t,aD,hn,h0,h1,h5,h6,h7⟩
  have nt:=aD.next
  have N6:=LD.keeps aD
  by_cases bc:i<N.length
  rotate_left
  ·obtain rfl:i=N.length:=by omega
   have d1:¬((N.length:Nat):Int)<((N.length:Nat):Int):=by omega
   rw[List.take_length] at hv
   simp-implicitDefEqProofs(disch:=omega)only[aj,ak,ad,QS,WP,↓reduceIte,hn,h1,h7,N6.bh Tryz.underlying22,eq_false d1]
   exact hQ _ _ _ ⟨rfl,v,hv,IK,aD,by simp only[ag,hn],by simp only[aa,↓reduceIte,WP,h0],by simp only[aa,↓reduceIte,WP,h5]⟩
  have d1:(i:Int)<(N.length:Int):=by omega
  have ln:=N6.indexAddr (P:=Tryz.prog) (k:= .i64) (x:=(i:Int)) Tryz.underlying22 bL (by omega) (by omega)
  rw[Int.toNat_natCast] at ln
  have iF:=N6.dJ (P:=Tryz.prog) mB bc
  rw[bG bc] at iF
  have hc8:=(N.getD i 0).toNat_lt
  have Zw:N.getD i 0=N[i]:=by rw[List.getD_eq_getElem?_getD,List.getElem?_eq_getElem bc];rfl
  rw[Zw] at iF hc8
  obtain⟨c,hc⟩:∃c,c=N[i]:=⟨_,rfl⟩
  rw[<-hc] at iF hc8
  have hk5:c.toNat%5<5:=Nat.mod_lt _ (by decide)
  have hiz:=hzt.indexAddr (P:=Tryz.prog) (k:= .i64) (x:=((c.toNat%5:Nat):Int)) Tryz.underlying27 CE (by omega) (by omega)
  rw[Int.toNat_natCast] at hiz
  have hlz:=hzt.dJ (P:=Tryz.prog) uN hk5
  rw[F2 (T:=mG) hk5] at hlz
  obtain⟨nm,Zv⟩:∃nm,nm=mG[c.toNat%5]'hk5:=⟨_,rfl⟩
  rw[<-Zv] at hlz
  have hpc:pick c=⟨0,0,0,nm,0⟩:=by
   unfold pick
   rw[List.getD_eq_getElem?_getD,List.getElem?_eq_getElem hk5,Zv];rfl
  have bl:cE Tryz.prog 58 [(1,.string ⟨nm.toArray⟩)]=some (fC ⟨0,0,0,nm,0⟩):=by kernel_rfl
  simp-implicitDefEqProofs(disch:=omega)only[aj,ak,ad,ae,QS,WP,↓reduceIte,hn,h1,h5,h6,h7,N6.bh Tryz.underlying22,eq_true d1,ln,iF,bR Tryz.underlying5 Tryz.underlying3,aB,eK,ahp,hiz,hlz,bl,fM (cs:=(⟨0,0,0,nm,0⟩:Lk).cells.toArray) UK cV IQ vo rfl rfl (by decide)]
  refine aQ (by rfl) ?_
  intro w t2 M0 aqN k4
  have m4:=k4.next
  simp-implicitDefEqProofs(disch:=omega)only[aj,ad,QS,WP,↓reduceIte,hn]
  refine bV UK UK (.inl ⟨_,rfl⟩) cV Wo IQ rfl (hv.keeps k4) M0.aG.src rfl (by decide) rfl (by omega) (by omega) IK (by omega) ?_
  intro v' t3 hv' ac2 k5 Zp qU
  simp-implicitDefEqProofs(disch:=omega)only[aj,QS,WP,↓reduceIte,hn,h7,aB]
  have al0:aN t3 1 z 5 (JK mG):=(hzt.keeps k4).H2 (F:=fun j=>aE z=some j) (fu.Pn fun j e=>e) Zp (fun j e e2=>ck j e2 e)
  have al1:∀j,aE v' =some j->aE z≠some j:=fun j e e2=>by
   rcases qU with h|⟨k,h,h2⟩
   ·exact ck j (by rw[<-h];exact e) e2
   ·rw[h] at e;injection e with e;have:=hz.g8 j e2;omega
  have m5:=Zp.next
  refine au (N.length-(i+1)) (by omega) ⟨i+1,v',rfl,by omega,?_,ac2,al1,al0,by omega,(aD.trans (k4.weaken nt)).trans k5,by simp only[ag,hn],by simp only[aa,↓reduceIte,WP,h0],by simp only[aa,↓reduceIte,WP,h1],by simp only[aa,↓reduceIte,WP],by simp only[aa,↓reduceIte,WP,h6],by simp only[aa,↓reduceIte];rfl⟩
  rw[List.take_succ_eq_append_getElem bc,<-hc,List.map_append,List.map_singleton,hpc,C2]
  simpa [mP] using hv'
 clear hn h0 h1 f
 rintro _ f t ⟨rfl,v,hv,IK,aD,hn,h0,h5⟩
 have nt:=aD.next
 have xz:=lM.keeps aD
 obtain⟨L,hL⟩:∃L,L=N.map pick:=⟨_,rfl⟩
 rw[<-hL] at hv
 have hLl:L.length=N.length:=by rw[hL,List.length_map]
 rw[<-hLl] at hv
 have hP:∀l∈L.map fG,kV l:=by
  intro l hl
  obtain⟨a,ha,rfl⟩:=List.mem_map.1 hl
  rw[hL] at ha
  obtain⟨c,_,rfl⟩:=List.mem_map.1 ha
  exact Oi c
 obtain⟨M,hM⟩:∃M,M=L.map fG:=⟨_,rfl⟩
 rw[<-hM] at hP
 have hMl:M.length=L.length:=by rw[hM,List.length_map]
 have mO:cU.length+1=6:=rfl
 have x0:∀a b,ba (.tuple #[a,b]) 0=some a:=fun _ _=>rfl
 have x1:∀a b,ba (.tuple #[a,b]) 1=some b:=fun _ _=>rfl
 simp-implicitDefEqProofs(disch:=omega)only[aj,ak,ad,QS,WP,↓reduceIte,hn,h0,h5]
 refine(xw t x v b L xz hv.aG (by omega) (by omega) (by rw[<-hM];exact fun l hl=>(hP l hl).2)).mono ?_
 have he:=Ha (L:=L) (by rw[<-hM];exact hP) (by omega) b
 rw[<-hM] at he
 rw[he]
 rintro _ s4 ⟨ca,rfl,oa,dY⟩
 have n4:=dY.next
 have la:=oa.len
 simp-implicitDefEqProofs(disch:=omega)only[aj,QS,WP,↓reduceIte,hn,x0,x1,zO,xB]
 refine ax ?_
 intro s5 vv qx WO
 simp-implicitDefEqProofs(disch:=omega)only[aj,QS,WP,↓reduceIte,hn,mO]
 refine aA iH (by decide) vv rfl rfl (by simpa using la) oa.ok ?_
 intro s6 M6 X6 M4
 have M6:av s6 s4.next ca:=M6
 have k46:ar s4.next s4 s6:=qx.trans ⟨by omega,fun j hj=>M4 j (by omega)⟩
 have k26:ar t.next t s6:=dY.trans (k46.weaken n4)
 have oa6:=oa.keeps k46
 have n6:=k46.next
 have hv6:=hv.keeps k26
 have hx6:=xz.keeps k26
 simp-implicitDefEqProofs(disch:=omega)only[aj,ak,QS,WP,↓reduceIte,undef,hn]
 have ru:∀j,(df (M.drop j) b).1.length<=65535:=fun j=>aho (by rw[List.length_drop];omega) (by omega)
 refine Comes.bK (fun q f u=>∃(i jR:Nat),q=L.length+1-i/\1<=i/\i<=L.length+1/\jR<=100000/\(∀j,1<=j->j<i->(df (M.drop j) b).1.length<=jR)/\(jR=0\/∃j,1<=j/\j<i/\(df (M.drop j) b).1.length=jR)/\ar s6.next s6 u/\f.n=109/\f.get 0=x/\f.get 5=v/\f.get 8= .pointer (some ⟨s4.next,0,some 6⟩)/\f.get 10= .int .i64 (jR:Nat)/\f.get 11= .int .i64 (i:Nat))
  (fun q f u=>q= .exit 2/\∃(jR:Nat),jR<=100000/\(∀j,1<=j->j<=L.length->(df (M.drop j) b).1.length<=jR)/\(jR=0\/∃j,1<=j/\j<=L.length/\(df (M.drop j) b).1.length=jR)/\ar s6.next s6 u/\f.n=109/\f.get 0=x/\f.get 5=v/\f.get 8= .pointer (some ⟨s4.next,0,some 6⟩)/\f.get 10= .int .i64 (jR:Nat))
  ⟨1,0,rfl,by omega,by omega,by omega,fun j h1 h2=>by omega,.inl rfl,ar.refl _ _,by simp only[ag,hn],by simp only[aa,↓reduceIte,WP,h0],by simp only[aa,↓reduceIte,WP,h5],by simp only[aa,↓reduceIte,WP],by simp only[aa,↓reduceIte,WP];rfl,by simp only[aa,↓reduceIte];rfl⟩ ?_ ?_
 ·clear hn h0 h5 f
  rintro Q hQ q f u ⟨i,jR,rfl,qo,IF,hnd,dN,Qc,aD,hn,h0,h5,h8,gK,AH⟩
  have nu:=aD.next
  have hvu:=(hv6.keeps aD).aG
  by_cases bc:i<=L.length
  rotate_left
  ·obtain rfl:i=L.length+1:=by omega
   have d1:¬((L.length+1:Nat):Int)<=((L.length:Nat):Int):=by omega
   simp-implicitDefEqProofs(disch:=omega)only[aj,ad,QS,WP,↓reduceIte,hn,h5,AH,hvu.bh UK,eq_false d1]
   exact hQ _ _ _ ⟨rfl,jR,hnd,fun j j1 j2=>dN j j1 (by omega),Qc.imp id (fun⟨j,j1,j2,j3⟩=>⟨j,j1,by omega,j3⟩),aD,by simp only[ag,hn],by simp only[aa,↓reduceIte,WP,h0],by simp only[aa,↓reduceIte,WP,h5],by simp only[aa,↓reduceIte,WP,h8],by simp only[aa,↓reduceIte,WP,gK]⟩
  have d1:((i:Nat):Int)<=((L.length:Nat):Int):=by omega
  have tH:=hvu.fp (P:=Tryz.prog) UK cV (k:= .i64) (x:=(i:Int)) (by omega) (by omega)
  rw[Int.toNat_natCast] at tH
  have ez:=hvu.cut (lo:=i) (hi:=L.length) (by omega) (Nat.le_refl _)
  rw[Lx,List.take_of_length_le (by rw[Na,List.length_drop];exact Nat.le_refl _),<-List.length_drop] at ez
  have hdM:(L.drop i).map fG=M.drop i:=by rw[hM,List.map_drop]
  have he:=Ha (L:=L.drop i) (by rw[hdM];exact fun l hl=>hP l (List.mem_of_mem_drop hl)) (by rw[List.length_drop];omega) b
  rw[hdM] at he
  simp-implicitDefEqProofs(disch:=omega)only[aj,ak,ad,ai,QS,WP,↓reduceIte,hn,h0,h5,AH,hvu.bh UK,eq_true d1,tH]
  refine(xw u x _ b (L.drop i) (hx6.keeps aD) ez (by omega) (by rw[List.length_drop];omega) (by rw[hdM];exact fun l hl=>(hP l (List.mem_of_mem_drop hl)).2)).mono ?_
  rw[he]
  rintro _ u4 ⟨cb,rfl,ob,k4⟩
  have m4:=k4.next
  have lb:=ob.len
  simp-implicitDefEqProofs(disch:=omega)only[aj,QS,WP,↓reduceIte,hn,x0,x1,zO,xB]
  refine ax ?_
  intro u5 hu5 k5 WO
  simp-implicitDefEqProofs(disch:=omega)only[aj,QS,WP,↓reduceIte,hn,mO]
  refine aA iH (by decide) hu5 rfl rfl (by simpa using lb) ob.ok ?_
  intro u6 hu6 X6 M4
  have hu6:av u6 u4.next cb:=hu6
  have m5:=k5.next
  have k46:ar u4.next u4 u6:=k5.trans ⟨by omega,fun j hj=>M4 j (by omega)⟩
  obtain⟨bv,wT,m8⟩:∃bv,cb.getD 2 undef=bv/\aN u6 1 bv (df (M.drop i) b).1.length (ofBytes (df (M.drop i) b).1):=by
   obtain⟨bv,lv,dv,lc,dc,rfl,h1,-⟩:=(ob.keeps k46).parts;exact⟨bv,rfl,h1⟩
  have l2:aR Tryz.prog u6 22 (.pointer (some ⟨u4.next,2,some 6⟩))=some bv:=by
   have:=hu6.load (P:=Tryz.prog) gw (off:=2) (c:=6) (by omega) (by omega)
   rw[this,wT]
  obtain⟨sz,b6⟩:∃n,n=(df (M.drop i) b).1.length:=⟨_,rfl⟩
  have IM:=ru i
  rw[<-b6] at m8 IM
  have Wy:(if((sz:Nat):Int)>((jR:Nat):Int) then((sz:Nat):Int) else((jR:Nat):Int))=((max jR sz:Nat):Int):=by split<;>omega
  have hmy:(if jR<sz then((sz:Nat):Int) else((jR:Nat):Int))=((max jR sz:Nat):Int):=by split<;>omega
  simp-implicitDefEqProofs(disch:=omega)only[aj,ak,ad,QS,WP,↓reduceIte,undef,hn,gK,AH,of2,l2,m8.bh Tryz.underlying22,aB]
  refine au (L.length+1-(i+1)) (by omega) ⟨i+1,max jR sz,rfl,by omega,by omega,by omega,fun j j1 j2=> ?_,?_,(aD.trans (k4.weaken nu)).trans (k46.weaken (by omega)),by simp only[ag,hn],by simp only[aa,↓reduceIte,WP,h0],by simp only[aa,↓reduceIte,WP,h5],by simp only[aa,↓reduceIte,WP,h8],by simp only[aa,↓reduceIte,WP];simp[hmy],by simp only[aa,↓reduceIte];rfl⟩
  ·by_cases e:j=i
   ·rw[e,<-b6];omega
   ·have:=dN j j1 (by omega);omega
  ·by_cases e:jR<sz
   ·exact .inr ⟨i,qo,by omega,by rw[<-b6];omega⟩
   ·rcases Qc with h|⟨j,j1,j2,j3⟩
    ·exact .inl (by omega)
    ·exact .inr ⟨j,j1,by omega,by omega⟩
 clear hn h0 h5 f
 rintro _ f u ⟨rfl,jR,hnd,dN,Qc,aD,hn,h0,h5,h8,gK⟩
 have nu:=aD.next
 have lP:=Oj hP (by omega) (Nat.le_trans (ru 0) (by decide))
 rw[List.drop_zero] at lP
 have LQ:=Aa M hP (by omega) (df M b).1
 have up:=Ab M hP b
 have hPr:∀l∈M.map z8,l.p=1/\l.co=1/\l.cl=1:=fun l hl=>by obtain⟨a,ha,rfl⟩:=List.mem_map.1 hl;exact(hP a ha).2
 have oau:=oa6.keeps aD
 have lau:=av.ga (M6.keeps aD) la
 have WB:=hx6.keeps aD
 have hvu:=(hv6.keeps aD).aG
 obtain⟨r1,-,r3⟩:=up (jR:Nat) (by omega) ru
 simp-implicitDefEqProofs(disch:=omega)only[aj,ak,ad,QS,WP,↓reduceIte,hn,h8,gK,lau]
 refine(xp _ u ca _ oau lP (jR:Nat) (by omega) (by rw[LQ];simp;omega) (by rw[LQ];exact yN M _ _ r3) (by rw[LQ];exact hPr)).mono ?_
 rw[Hb hP (by omega),r1 (fun j j1 j2=>by have:=dN j j1 (by omega);omega)]
 rintro _ u1 ⟨w,rfl,hw⟩
 have k1:=hw.stay
 have z0:∀q,ba (.tuple #[w,q]) 0=some w:=fun _=>rfl
 have z1:∀q,ba (.tuple #[w,q]) 1=some q:=fun _=>rfl
 have d0:¬((0:Int)≠0):=fun h=>h rfl
 simp-implicitDefEqProofs(disch:=omega)only[aj,ak,ad,QS,WP,↓reduceIte,hn,h0,z0,z1]
 refine(TS (lib:=eC) rfl u1 w x b b hw.own.aG (WB.keeps k1) (by omega) (by omega)).mono ?_
 rintro _ u1 ⟨rfl,rfl⟩
 have Zc:=hvu.keeps k1
 by_cases cl:L.length=0
 ·have dl:((L.length:Nat):Int)=0:=by omega
  simp-implicitDefEqProofs(disch:=omega)only[aj,ak,al,oneOf,ad,QS,WP,↓reduceIte,hn,h5,Zc.bh UK,eq_true dl,Tryz.results5]
  rw[gp]
 have dl:¬((L.length:Nat):Int)=0:=by omega
 have anS:1<=jR:=by
  have h1:=dN L.length (by omega) (Nat.le_refl _)
  have h2:M.drop L.length=[]:=List.drop_of_length_le (by omega)
  rw[h2] at h1
  have h1:b.length<=jR:=h1
  omega
 obtain⟨j,j1,j2,j3⟩:=Qc.resolve_left (by omega)
 have al3:=av.ga ((M6.keeps aD).keeps k1) la
 obtain⟨-,r2,r3⟩:=up ((jR-1:Nat):Int) (by omega) ru
 have en:((jR:Nat):Int)-1=((jR-1:Nat):Int):=by omega
 simp-implicitDefEqProofs(disch:=omega)only[aj,ak,ad,QS,WP,↓reduceIte,hn,h5,h8,gK,Zc.bh UK,eq_false dl,al3,aB,en]
 refine(xp _ u1 ca _ (oau.keeps k1) lP ((jR-1:Nat):Int) (by omega) (by rw[LQ];simp;omega) (by rw[LQ];exact yN M _ _ r3) (by rw[LQ];exact hPr)).mono ?_
 rw[Hb hP (by omega),r2 ⟨j,j1,by omega,by omega⟩]
 rintro _ u3 ⟨w3,rfl,JV⟩
 have y0:∀q,ba (.tuple #[w3,q]) 0=some w3:=fun _=>rfl
 have y1:∀q,ba (.tuple #[w3,q]) 1=some q:=fun _=>rfl
 simp-implicitDefEqProofs(disch:=omega)only[aj,al,oneOf,QS,WP,↓reduceIte,hn,y0,y1,Tryz.results5]
 rw[gp]
theorem own:ownKnob Tryz.prog.godebug=none:=by kernel_rfl
theorem sound:A1 Tryz.prog eC=true:=by kernel_rfl
theorem laid:laidOutB Tryz.prog=true:=by kernel_rfl
theorem read:∀t∈Tryz.f5.params.toList,Tryz.prog.readableRec t=true/\t<Tryz.prog.types.size:=by
 have:(Tryz.f5.params.toList.all fun t=>Tryz.prog.readableRec t&&decide (t<Tryz.prog.types.size))=true:=by kernel_rfl
 intro t ht
 simpa using List.all_eq_true.mp this t ht
theorem Qd:Tryz.prog.cellsOf 5=1:=by kernel_rfl
set_option maxRecDepth 100000 in
theorem lifted (os:Os)(started:os.Started)(H:Type)(enc:TypeId×Value->H):
  ReturnsInHanded {} Tryz.checked os 5 .any (Rows.chainBoundSpec.pre6 enc Tryz.prog Tryz.f5 Rows.chainBoundRow.domain false) (Rows.chainBoundSpec.post enc Tryz.prog Tryz.f5 false true false false):=by
 refine returnsInHanded_of_change (C:=Tryz.checked) own started (by kernel_rfl) Tryz.func5
  (ChangeSpec.witness6 (enc:=enc) (C:=Tryz.checked) false ⟨#[], #[.slice none 0 0,.slice none 0 0],[]⟩ 8 (by kernel_rfl) (by kernel_rfl) (by kernel_rfl) (by kernel_rfl)) ?_
 intro W base args ds gs before Jw hW aqS _
 obtain⟨p,q,hA,_,_,_,_⟩:=id hW
 have hA:DataW.TrodAll enc Tryz.prog W 0 (fun _=>true) true Tryz.f5.params.toList args.toList ds p:=hA
 rw[Tryz.params5] at hA
 obtain⟨v0,v1,d0,d1,p0,p1,rfl,rfl,rfl,h0,h1⟩:=trodAll_two hA
 have Y7:Value.okWide Tryz.prog W .any base 22 v0:=Jw 0 _ _ (by rw[Tryz.params5];rfl) rfl
 have hv1:Value.okWide Tryz.prog W .any base 22 v1:=Jw 1 _ _ (by rw[Tryz.params5];rfl) rfl
 obtain⟨S0,x0,l0,hj0,Aw⟩:=(mj.start W).bytes Tryz.underlying22 Tryz.underlying5 Qd Y7 h0
 obtain⟨S1,x1,l1,Vv,lM⟩:=hj0.begun.bytes Tryz.underlying22 Tryz.underlying5 Qd hv1 h1
 have BD:=Runs.abz ZJ (afd _) sound rfl Vv.begun (law S1.s x0 l0 x1 l1 Vv.begun.sr.wf (by rw[Vv.next];rw[hj0.next];rfl) (Aw.keeps Vv.stay) lM) (args' := #[v0,v1]) (er.cons (hj0.vr.mono Vv.ext) (er.cons Vv.vr er.nil))
 refine BD.mono fun e W' ⟨he,hb⟩=> ?_
 subst he
 exact TM laid read rfl Tryz.underlying4 rfl (fun L hL=>by match L,hL with|[a0,a1],_=>rfl) hW hb
theorem over:Rows.chainBoundRow.holds Tryz.pinned (OpenSpec.ofChange Rows.chainBoundSpec):=
 OpenClaim.holds_of_wide 5 Tryz.f5 rfl rfl rfl rfl rfl rfl rfl ⟨rfl,rfl,rfl,rfl,rfl⟩ rfl rfl rfl rfl rfl (by kernel_rfl) Tryz.func5 (by kernel_rfl)
  (of_decide_eq_true (by kernel_rfl)) (by unfold Func.isWrapper;first|(rw[if_pos (by decide+kernel)];kernel_rfl)|(rw[if_neg (by decide+kernel)];exact⟨rfl,rfl⟩))
  (fun os started H enc _=>lifted os started H enc)
theorem proved:Rows.ChainBoundSaid:=over
#print axioms proved
end Go.Proofs.YtdfjfncifneocaaGreat.chainBound
