import Derived.Test.YtdfjfncifneocaaGreatChB
open _root_ renaming reduceIte->ab,decide_eq_false->an,decide_eq_true->ao,eq_false->av,eq_true->aC,if_neg->a8,if_pos->bk,of_decide_eq_true->bt,decide_not->b4,List->b7,Nat->cv,absurd->cJ,Int->dg,Bool->dt,UInt8->ea,true_and->ee,and_self->ep
open Go.Proofs.Tryz renaming prog->af,results32->b5,underlying68->ck,results31->cm,results12->cB,underlying24->cD,underlying22->cL,underlying23->cT,underlying9->dk,underlying5->ds,results33->dP,results13->dT,results63->en,results62->eo,results57->et,results64->eu,results34->ev
open Nat renaming reduceSub->ax,reduceAdd->bb,sub_self->cg,add_one_sub_one->ch,le_refl->cM,ble->ed,beq->ew
open Go renaming Value->bw
open Classical renaming byContradiction->cc
open List renaming drop_eq_getElem_cons->cd,getElem_mem->cx,replicate->cA,length_replicate->dw,mem_replicate->eb,mem_singleton->ec,drop_length->eg,length_cons->eh,length_nil->ek
open Go.Value renaming bool->cz,int->ey
open Int renaming toNat_natCast->c4,ofNat->eA
open Nat renaming reduceLT->QM,reduceEqDiff->WP
set_option maxHeartbeats 8000000
set_option linter.unusedSimpArgs false
set_option linter.unusedVariables false
set_option maxRecDepth 100000
namespace Go.Cl
theorem dV.rL {F:cv->Prop}{s:au}{cs:b7 bw}{o:O}(h:dV F s cs o):cs.getD 0 undef= .int .i64 o.kind/\cs.getD 1 undef= .int .i64 o.num:=by
 cases o with
 |mk k n b l d=>obtain⟨bv,lv,dv,lc,dc,rfl,-⟩:=h.parts;exact⟨rfl,rfl⟩
theorem az.KQ {s s' :au}{i jl jo:cv}{cs:b7 bw}(h:az s i cs)(hn:s.next<=s'.next)(hg:∀j,j<s.next->j≠jl->j≠jo->s'.heap.get j=s.heap.get j)(h1:i≠jl)(h2:i≠jo):az s' i cs:=by
 obtain⟨low,z,b1,b2⟩:=h.eE;exact⟨Nat.lt_of_lt_of_le h.lt hn,low,z,by simp only[au.bL,hg _ h.lt h1 h2];exact b1,b2⟩
end Go.Cl
namespace Go.Cl.Ch
open Go.Cl.Pr
def Al:b7 ea:=[69,97,114,108,121,67,104,97,110,103,101]
def ej (o:O)(k:b7 ea)(d:dg):dg×dt:=if(fP o k).kind=0 then(d,true) else((fP o k).num,decide ((fP o k).kind=2))
def th (n p:O):Lk:=⟨(ej p Hv 1).1,(ej p vE 1).1,(ej p rJ 1).1,n.bytes,(ej p Al 1).1⟩
def Uj (p:O):dt:=(ej p Hv 1).2&&(ej p vE 1).2&&(ej p rJ 1).2&&(ej p Al 1).2
def y5 (n p:O):dt:=(Uj p&&decide (pC (th n p).p (th n p).co (th n p).cl))&&decide ((th n p).early=1)&&(decide ((th n p).p=1)||(ej p Hu 8).2&&decide ((ej p Hu 8).1=8))
def kK (n p:O):Lk×dt:=if n.kind≠5\/p.kind≠0/\p.kind≠7 then(⟨0,0,0,[],0⟩,false) else(th n p,y5 n p)
end Go.Cl.Ch
namespace Go.Proofs.YtdfjfncifneocaaGreat
open Go.Cl Go.Cl.Pr Go.Cl.Ch
theorem Er (F:cv->Prop)(s:au)(cs:b7 bw)(o:O)(ho:dV F s cs o)(iW:Small o)(k:b7 ea):Runs af dR 61 [.agg cs.toArray,.string ⟨k.toArray⟩] s (su s (fP o k)):=Xg rfl rfl rfl rfl rfl F s cs o ho iW k
theorem HA (F:cv->Prop)(s:au)(cs:b7 bw)(o:O)(ho:dV F s cs o)(iW:Small o)(k:b7 ea)(d:dg):
  Runs af dR 63 [.agg cs.toArray,.string ⟨k.toArray⟩,.int .i64 d] s fun v s' =>v= .tuple #[.int .i64 (ej o k d).1,.bool (ej o k d).2]/\aw s.next s s' :=by
 have iz:=ho.len;refine Runs.enter 21 Tryz.func63 rfl rfl rfl rfl ?_;intro f hn hf;have h0:f.get 0= .agg cs.toArray:=hf 0;have h1:f.get 1= .string ⟨k.toArray⟩:=hf 1;have h2:f.get 2= .int .i64 d:=hf 2;clear hf;have qB:fC.length+1=6:=rfl;simp only[aj,QM,↓ab,hn,h0];refine aA ?_;intro s1 eJ aY gG;simp only[aj,ak,ad,QM,WP,bb,↓ab,hn,h1,iz,az.fi eJ iz];refine(Er F s1 cs o (ho.keeps aY) iW k).mono ?_;rintro _ s2 ⟨c2,rfl,iV,k2⟩;have n1:=aY.next;have n2:=k2.next;simp only[aj,QM,↓ab,hn,zO,Ac];refine aA ?_;intro s3 jE bA Ga;simp only[aj,QM,WP,↓ab,hn,qB];refine aG kn (by decide) jE rfl rfl iV.len iV.ok ?_;intro s4 ly tw qi;have ly:az s4 s2.next c2:=ly;have eP:aw s.next s s4:=((aY.trans (k2.weaken n1)).trans (bA.weaken (by omega))).trans ⟨by omega,fun j hj=>qi j (by omega)⟩;obtain⟨q0,q1⟩:=dV.rL iV;have l0:aN af s4 3 (.pointer (some ⟨s2.next,0,some 6⟩))=some (.int .i64 (fP o k).kind):=by
  have:=ly.load (P:=af) aP (off:=0) (c:=6) (by rw[iV.len]) (by rw[iV.len];omega);rw[this,q0]
 have l1:aN af s4 2 (.pointer (some ⟨s2.next,1,some 6⟩))=some (.int .i64 (fP o k).num):=by
  have:=ly.load (P:=af) Kr (off:=1) (c:=6) (by rw[iV.len]) (by rw[iV.len];omega);rw[this,q1]
 by_cases c0:(fP o k).kind=0
 ·simp only[aj,al,oneOf,QM,WP,↓ab,hn,h2,oi,l0,c0,en];exact⟨by unfold ej;rw[bk c0],eP⟩
 simp only[aj,al,oneOf,QM,WP,↓ab,hn,oi,Wa,l0,l1,an c0,en];exact⟨by unfold ej;rw[a8 c0],eP⟩
theorem y6 (F:cv->Prop)(s:au)(cs:b7 bw)(o:O)(ho:dV F s cs o)(iW:Small o)(k:b7 ea)(d:dg)(jl jp jo m:cv)(lc:b7 bw)(b:dt)(h5:lc.length=5)(hm:m<5)(hl:az s jl lc)(hp:az s jp cs)(hb:az s jo [.bool b])(cE:jl≠jo):
  Runs af dR 62 [.pointer (some ⟨jl,m,some 6⟩),.string ⟨k.toArray⟩,.int .i64 d,.pointer (some ⟨jp,0,some 6⟩),.pointer (some ⟨jo,0,some 2⟩)] s fun v s' =>v= .tuple #[]/\az s' jl (lc.set m (.int .i64 (ej o k d).1))/\az s' jo [.bool (b&&(ej o k d).2)]/\s.next<=s'.next/\∀j,j<s.next->j≠jl->j≠jo->s'.heap.get j=s.heap.get j:=by
 have iz:=ho.len;refine Runs.enter 24 Tryz.func62 rfl rfl rfl rfl ?_;intro f hn hf;have h0:f.get 0= .pointer (some ⟨jl,m,some 6⟩):=hf 0;have h1:f.get 1= .string ⟨k.toArray⟩:=hf 1;have h2:f.get 2= .int .i64 d:=hf 2;have h3:f.get 3= .pointer (some ⟨jp,0,some 6⟩):=hf 3;have h4:f.get 4= .pointer (some ⟨jo,0,some 2⟩):=hf 4;clear hf;have lp:=az.fi hp iz;simp only[aj,ak,ad,QM,WP,↓ab,hn,h1,h2,h3,lp];refine(HA F s cs o ho iW k d).mono ?_;rintro _ s1 ⟨rfl,k1⟩;have nS:=hl.keeps k1;have fp:=hb.keeps k1;have n1:=k1.next;obtain⟨R,hR⟩:∃R,R=ej o k d:=⟨_,rfl⟩
 rw[<-hR];have x0:aH (.tuple #[.int .i64 R.1,.bool R.2]) 0=some (.int .i64 R.1):=rfl;have x1:aH (.tuple #[.int .i64 R.1,.bool R.2]) 1=some (.bool R.2):=rfl;simp only[aj,QM,WP,↓ab,hn,x0,x1];obtain⟨A,hA⟩:∃A:cv->dt,A=fun j=>decide (j<s1.next/\j≠jl):=⟨_,rfl⟩
 have gu:∀j,A j=true->j<s1.next:=by
  intro j h;rw[hA] at h;exact(bt h).1
 have hAj:A jl=false:=by rw[hA];exact an (fun h=>h.2 rfl)
 have oO:A jo=true:=by rw[hA];exact ao ⟨fp.lt,Ne.symm cE⟩
 refine LB.cN.dx A gu 1 0 (by kernel_rfl) (by kernel_rfl) ?_;have dI:=aw.spare s1 0;have QN:(spare s1 0).next=s1.next+0:=bu _ _;have mA:∀k,LA.di A (some (.pointer (some ⟨jo,k,some 2⟩)))=true:=fun k=>LA.bN (A:=A) (i:=jo) oO
 have l4:aN af (spare s1 0) 4 (.pointer (some ⟨jo,0,some 2⟩))=some (.bool b):=(fp.keeps dI).load NB (off:=0) (c:=2) rfl (by simp);have iG:=nS.keeps dI;have dr:=fp.keeps dI;have fin:∀(c:dt) (T1 T2:au),az T1 jl (over lc m [.int .i64 R.1])->T1.next=(spare s1 0).next->(∀j,j≠jl->T1.heap.get j=(spare s1 0).heap.get j)->az T2 jo [.bool c]->T2.next=T1.next->(∀j,j≠jo->T2.heap.get j=T1.heap.get j)->az T2 jl (lc.set m (.int .i64 R.1))/\az T2 jo [.bool c]/\s.next<=T2.next/\∀j,j<s.next->j≠jl->j≠jo->T2.heap.get j=s.heap.get j:=by
  intro c T1 T2 a1 a2 a3 b1 b2 b3;have e:over lc m [.int .i64 R.1]=lc.set m (.int .i64 R.1):=by
   unfold over;rw[List.set_eq_take_append_cons_drop,bk (by omega)];simp
  rw[e] at a1;refine⟨a1.aK b2 b3 cE,b1,by omega,fun j hj h1 h2=> ?_⟩;rw[b3 j h2,a3 j h1,dI.get j (by omega),k1.get j hj]
 cases b with
 |true=>
  simp only[aj,ak,bg,bn,QM,WP,↓ab,hn,h0,h4,mA,l4];refine LB.fu (m:=1) aV (by decide) iG (by omega) rfl rfl (by omega) rfl (fun _=>hAj) ?_;intro T1 a1 a2 a3;simp only[aj,bn,cg,QM,WP,↓ab,hn,h4];refine LB.fu (m:=1) qE (by decide) (dr.aK a2 a3 (Ne.symm cE)) rfl rfl rfl (by decide) rfl (fun h=>cJ rfl h) ?_;intro T2 b1 b2 b3;simp only[aj,ah,oneOf,aj,bn,ax,oneOf,eo];exact fin _ T1 T2 a1 a2 a3 b1 b2 b3
 |false=>
  simp only[aj,ak,bg,bn,QM,WP,↓ab,hn,h0,h4,mA,l4];refine LB.fu (m:=1) aV (by decide) iG (by omega) rfl rfl (by omega) rfl (fun _=>hAj) ?_;intro T1 a1 a2 a3;simp only[aj,bn,cg,QM,WP,↓ab,hn,h4];refine LB.fu (m:=1) qE (by decide) (dr.aK a2 a3 (Ne.symm cE)) rfl rfl rfl (by decide) rfl (fun h=>cJ rfl h) ?_;intro T2 b1 b2 b3;simp only[aj,ah,oneOf,aj,bn,ax,oneOf,eo];exact fin _ T1 T2 a1 a2 a3 b1 b2 b3
theorem Uk (F G:cv->Prop)(s:au)(cn cs:b7 bw)(n o:O)(hN:dV F s cn n)(hO:dV G s cs o)(iW:Small o):
  Runs af dR 32 [.agg cn.toArray,.agg cs.toArray] s fun v s' =>v= .tuple #[eN (kK n o).1,.bool (kK n o).2]/\aw s.next s s' :=by
 have XA:=hN.len;have iz:=hO.len;obtain⟨QQ,eK⟩:∃QQ:bw->au->Prop,QQ=fun v s' =>v= .tuple #[eN (kK n o).1,.bool (kK n o).2]/\aw s.next s s' :=⟨_,rfl⟩
 rw[<-eK];refine Runs.enter 75 Tryz.func32 rfl rfl rfl rfl ?_;intro f hn hf;have h0:f.get 0= .agg cn.toArray:=hf 0;have h1:f.get 1= .agg cs.toArray:=hf 1;clear hf;have qB:(⟨0,0,0,[],0⟩:Lk).cells.length+1=6:=rfl;have IU:b6 af 58=some (eN ⟨0,0,0,[],0⟩):=by kernel_rfl
 have vS:cr (eN ⟨0,0,0,[],0⟩)=true:=by kernel_rfl
 simp only[aj,QM,↓ab,hn,h0];refine aA ?_;intro s1 eJ aY gG;simp only[aj,QM,WP,bb,↓ab,hn,h1,XA];refine aA ?_;intro s2 dK aR jD;simp only[aj,QM,bb,↓ab,hn,iz,IU,vS];refine aA ?_;intro s3 jE bA Ga;have jE:az s3 s2.next (⟨0,0,0,[],0⟩:Lk).cells:=jE;have n1:=aY.next;have n2:=aR.next;have n3:=bA.next;have iT:aw s.next s s3:=(aY.trans (aR.weaken n1)).trans (bA.weaken (by omega));have eJ:=eJ.keeps (aR.trans (bA.weaken n2));have dK:=dK.keeps bA;obtain⟨a0,-⟩:=dV.rL hN;obtain⟨b0,-⟩:=dV.rL hO;have l1:aN af s3 3 (.pointer (some ⟨s.next,0,some 6⟩))=some (.int .i64 n.kind):=by
  have:=eJ.load (P:=af) aP (off:=0) (c:=6) (by omega) (by omega);rw[this,a0]
 have l2:aN af s3 3 (.pointer (some ⟨s1.next,0,some 6⟩))=some (.int .i64 o.kind):=by
  have:=dK.load (P:=af) aP (off:=0) (c:=6) (by omega) (by omega);rw[this,b0]
 have bz:da af 58 []=some (eN ⟨0,0,0,[],0⟩):=by kernel_rfl
 by_cases c1:n.kind≠5\/o.kind≠0/\o.kind≠7
 ·have e:kK n o=(⟨0,0,0,[],0⟩,false):=by unfold kK;rw[bk c1]
  have fin:∀s4:au,az s4 s2.next (eN ⟨0,0,0,[],0⟩).cells.toList->s4.next=s3.next->(∀j,j≠s2.next->s4.heap.get j=s3.heap.get j)->aN af s4 58 (.pointer (some ⟨s2.next,0,some 6⟩))=some (eN ⟨0,0,0,[],0⟩)/\aw s.next s s4:=fun s4 h1 h2 h3=>⟨az.bd (P:=af) (cs:=(⟨0,0,0,[],0⟩:Lk).cells) qh gl h1 (c:=6) rfl,iT.trans ⟨by omega,fun j hj=>h3 j (by omega)⟩⟩
  by_cases c5:n.kind=5
  ·obtain⟨c2,c3⟩:o.kind≠0/\o.kind≠7:=c1.elim (fun h=>cJ c5 h) id;simp only[aj,ak,ae,QM,WP,↓ab,hn,qB,oi,l1,l2,bz,b4,c5,an c2,an c3];refine aG gl (by decide) jE rfl rfl rfl rfl ?_;intro s4 ly tw qi;obtain⟨e1,e2⟩:=fin s4 ly tw qi;simp only[aj,al,oneOf,QM,WP,↓ab,hn,a4,e1,b5];rw[eK,e];exact⟨rfl,e2⟩
  simp only[aj,ak,ae,QM,WP,↓ab,undef,hn,qB,oi,l1,bz,b4,an c5];refine aG gl (by decide) jE rfl rfl rfl rfl ?_;intro s4 ly tw qi;obtain⟨e1,e2⟩:=fin s4 ly tw qi;simp only[aj,al,oneOf,QM,WP,↓ab,hn,a4,e1,b5];rw[eK,e];exact⟨rfl,e2⟩
 have c5:n.kind=5:=cc fun h=>c1 (.inl h)
 have c7:o.kind=0\/o.kind=7:=cc fun h=>c1 (.inr ⟨fun e=>h (.inl e),fun e=>h (.inr e)⟩)
 have e:kK n o=(th n o,y5 n o):=by unfold kK;rw[a8 c1]
 obtain⟨bv,tu,nj⟩:∃bv,cn.getD 2 undef=bv/\aU s 1 bv n.bytes.length (ofBytes n.bytes):=by
  cases n with
  |mk k m b l d=>obtain⟨bv,lv,dv,lc,dc,rfl,h1,-⟩:=hN.parts;exact⟨bv,rfl,h1⟩
 have l3:aN af s3 22 (.pointer (some ⟨s.next,2,some 6⟩))=some bv:=by
  have:=eJ.load (P:=af) gJ (off:=2) (c:=6) (by omega) (by omega);rw[this,tu]
 have Ul:=(nj.keeps iT).str (P:=af) cL dk ds;have bl:da af 58 [(1,.string ⟨n.bytes.toArray⟩)]=some (eN ⟨0,0,0,n.bytes,0⟩):=by kernel_rfl
 have zB:b6 af 4=some (.bool false):=by kernel_rfl
 simp only[aj,ak,QM,WP,↓ab,hn,qB,oi,l1,c5];generalize hK:oD af dR (Code.seq (Code.region 3 _ _) _) _=K;have go:∀f:aZ,f.n=75->f.get 2= .pointer (some ⟨s.next,0,some 6⟩)->f.get 3= .pointer (some ⟨s1.next,0,some 6⟩)->f.get 4= .pointer (some ⟨s2.next,0,some 6⟩)->K .normal f s3:=by
  clear hn h0 h1 f;intro f hn h2 h3 h4;subst hK;simp only[aj,ae,QM,↓ab,hn,h2,M3,l3,Ul,bl,IU,vS];refine aA ?_;intro s4 ly eP uF;have ly:az s4 s3.next (⟨0,0,0,[],0⟩:Lk).cells:=ly;simp only[aj,QM,WP,↓ab,hn,qB];refine aG gl (by decide) ly rfl rfl rfl rfl ?_;intro s5 py Sw oE;have py:az s5 s3.next (⟨0,0,0,n.bytes,0⟩:Lk).cells:=py;have n4:=eP.next;have hk5:aw s3.next s3 s5:=eP.trans ⟨by omega,fun j hj=>oE j (by omega)⟩;simp only[aj,zB];refine aA ?_;intro s6 Wh cU aeE;have Wh:az s6 s5.next [.bool false]:=Wh;have n6:=cU.next;simp only[aj,QM,↓ab,hn];refine ba qE Wh rfl (by decide) rfl ?_;intro s7 xO JC zy;have xO:az s7 s5.next [.bool true]:=xO;have hk7:aw s3.next s3 s7:=(hk5.trans (cU.weaken (by omega))).trans ⟨by omega,fun j hj=>zy j (by omega)⟩;have uH:az s7 s3.next (⟨0,0,0,n.bytes,0⟩:Lk).cells:=(py.keeps cU).aK JC zy (by omega);have hp7:=dK.keeps hk7;have wi:(cz false).cells.toList.length+1=2:=rfl;have hz7:aw s.next s s7:=iT.trans (hk7.weaken (by omega));have hq7:=jE.keeps hk7;have hb7:=xO;obtain⟨w1,Fs⟩:∃w,w=ej o Hv 1:=⟨_,rfl⟩
  obtain⟨w2,JB⟩:∃w,w=ej o vE 1:=⟨_,rfl⟩
  obtain⟨w3,Q8⟩:∃w,w=ej o rJ 1:=⟨_,rfl⟩
  obtain⟨w4,Pg⟩:∃w,w=ej o Al 1:=⟨_,rfl⟩
  obtain⟨w5,hw5⟩:∃w,w=ej o Hu 8:=⟨_,rfl⟩
  simp only[aj,ak,ad,QM,WP,↓ab,hn,h3,wi,yT,IQ,Ec];refine(y6 G s7 cs o (hO.keeps hz7) iW Hv 1 s3.next s1.next s5.next 0 (⟨0,0,0,n.bytes,0⟩:Lk).cells true rfl (by decide) uH hp7 hb7 (by omega)).mono ?_;rintro _ s8 ⟨rfl,Gd,OI,JD,hg8⟩;rw[<-Fs] at Gd OI;have hp8:az s8 s1.next cs:=hp7.KQ JD hg8 (by omega) (by omega);have ha8:aw s.next s s8:=hz7.trans ⟨by omega,fun j hj=>hg8 j (by omega) (by omega) (by omega)⟩;have hz8:=ha8;have xj:az s8 s2.next _:=hq7.KQ JD hg8 (by omega) (by omega);have hq8:=xj;have Gd:az s8 s3.next (⟨w1.1,0,0,n.bytes,0⟩:Lk).cells:=Gd;simp only[aj,ak,ad,QM,WP,↓ab,hn,IQ,Nj];refine(y6 G s8 cs o (hO.keeps hz8) iW vE 1 s3.next s1.next s5.next 1 (⟨w1.1,0,0,n.bytes,0⟩:Lk).cells (true&&w1.2) rfl (by decide) Gd hp8 OI (by omega)).mono ?_;rintro _ s9 ⟨rfl,hl9,hb9,hn9,hg9⟩;rw[<-JB] at hl9 hb9;have hp9:az s9 s1.next cs:=hp8.KQ hn9 hg9 (by omega) (by omega);have ha9:aw s.next s s9:=hz8.trans ⟨by omega,fun j hj=>hg9 j (by omega) (by omega) (by omega)⟩;have hz9:=ha9;have ht9:az s9 s2.next _:=hq8.KQ hn9 hg9 (by omega) (by omega);have hq9:=ht9;have hl9:az s9 s3.next (⟨w1.1,w2.1,0,n.bytes,0⟩:Lk).cells:=hl9;simp only[aj,ak,ad,QM,WP,↓ab,hn,IQ,QW];refine(y6 G s9 cs o (hO.keeps hz9) iW rJ 1 s3.next s1.next s5.next 2 (⟨w1.1,w2.1,0,n.bytes,0⟩:Lk).cells ((true&&w1.2)&&w2.2) rfl (by decide) hl9 hp9 hb9 (by omega)).mono ?_;rintro _ XB ⟨rfl,Um,aaZ,Ge,aa0⟩;rw[<-Q8] at Um aaZ;have aeF:az XB s1.next cs:=hp9.KQ Ge aa0 (by omega) (by omega);have aiW:aw s.next s XB:=hz9.trans ⟨by omega,fun j hj=>aa0 j (by omega) (by omega) (by omega)⟩;have aeG:=aiW;have aiX:az XB s2.next _:=hq9.KQ Ge aa0 (by omega) (by omega);have aiY:=aiX;have Um:az XB s3.next (⟨w1.1,w2.1,w3.1,n.bytes,0⟩:Lk).cells:=Um;simp only[aj,ak,ad,QM,WP,↓ab,hn,Ue];refine(y6 G XB cs o (hO.keeps aeG) iW Al 1 s3.next s1.next s5.next 4 (⟨w1.1,w2.1,w3.1,n.bytes,0⟩:Lk).cells (((true&&w1.2)&&w2.2)&&w3.2) rfl (by decide) Um aeF aaZ (by omega)).mono ?_;rintro _ Wi ⟨rfl,IV,aa1,aeH,aa2⟩;rw[<-Pg] at IV aa1;have aiZ:az Wi s1.next cs:=aeF.KQ aeH aa2 (by omega) (by omega);have ai0:aw s.next s Wi:=aeG.trans ⟨by omega,fun j hj=>aa2 j (by omega) (by omega) (by omega)⟩;have aa3:=ai0;have ai1:az Wi s2.next _:=aiY.KQ aeH aa2 (by omega) (by omega);have ai2:=ai1;have IV:az Wi s3.next (⟨w1.1,w2.1,w3.1,n.bytes,w4.1⟩:Lk).cells:=IV;have lp:=az.fi aiZ iz;simp only[aj,ak,ad,QM,WP,↓ab,hn,h3,lp];refine(HA G Wi cs o (hO.keeps aa3) iW Hu 8).mono ?_;rintro _ zz ⟨rfl,XC⟩;rw[<-hw5];have x0:aH (.tuple #[.int .i64 w5.1,.bool w5.2]) 0=some (.int .i64 w5.1):=rfl;have x1:aH (.tuple #[.int .i64 w5.1,.bool w5.2]) 1=some (.bool w5.2):=rfl;simp only[aj,QM,WP,↓ab,hn,x0,x1];obtain⟨ok,gF⟩:∃ok,ok=((((true&&w1.2)&&w2.2)&&w3.2)&&w4.2):=⟨_,rfl⟩
  obtain⟨l,hl⟩:∃l:Lk,l=⟨w1.1,w2.1,w3.1,n.bytes,w4.1⟩:=⟨_,rfl⟩
  have Wj:th n o=l:=by unfold th;rw[<-Fs,<-JB,<-Q8,<-Pg,hl]
  have hU:y5 n o=((ok&&decide (pC l.p l.co l.cl))&&decide (l.early=1)&&(decide (l.p=1)||w5.2&&decide (w5.1=8))):=by
   unfold y5;rw[Wj,<-hw5];unfold Uj;rw[<-Fs,<-JB,<-Q8,<-Pg,gF,Bool.true_and]
  have Q9:az Wi s3.next l.cells:=by rw[hl];exact IV
  have XD:az Wi s5.next [.bool ok]:=by rw[gF];exact aa1
  have Q9:=Q9.keeps XC;have XD:=XD.keeps XC;have aa4:=ai2.keeps XC;have aeI:=aa3.trans (XC.weaken aa3.next);clear uH Gd hl9 Um IV hb7 OI hb9 aaZ aa1;obtain⟨A,hA⟩:∃A:cv->dt,A=fun j=>decide (j<zz.next):=⟨_,rfl⟩
  have gu:∀j,A j=true->j<zz.next:=by
   intro j h;rw[hA] at h;exact bt h
  have hA3:A s3.next=true:=by rw[hA];exact ao Q9.lt
  have hA5:A s5.next=true:=by rw[hA];exact ao XD.lt
  refine LB.cN.dx A gu 1 0 (by kernel_rfl) (by kernel_rfl) ?_;have dI:=aw.spare zz 0;have QN:(spare zz 0).next=zz.next+0:=bu _ _;have Wk:∀k,LA.di A (some (.pointer (some ⟨s3.next,k,some 6⟩)))=true:=fun k=>LA.bN (A:=A) (i:=s3.next) hA3
  have lo5:∀k,LA.di A (some (.pointer (some ⟨s5.next,k,some 2⟩)))=true:=fun k=>LA.bN (A:=A) (i:=s5.next) hA5
  have aa6:=Q9.keeps dI;have aeJ:=aa4.keeps dI;have XE:aw s.next s (spare zz 0):=aeI.trans (dI.weaken aeI.next);have fV:bI (eN l) (eN l)=true:=by simp[bI,fc,cw,Lk.cells]
  have pl:aN af (spare zz 0) 58 (.pointer (some ⟨s3.next,0,some 6⟩))=some (eN l):=az.bd (P:=af) (cs:=l.cells) qh gl aa6 (c:=6) rfl;have pb:aN af (spare zz 0) 4 (.pointer (some ⟨s5.next,0,some 2⟩))=some (.bool ok):=(XD.keeps dI).load NB (off:=0) (c:=2) rfl (by simp);have ps:aN af (spare zz 0) 56 (.pointer (some ⟨s3.next,0,some 6⟩))=some (i3 l.p l.co l.cl):=by
   have:=az.qc (P:=af) TX KE aa6 (off:=0) (c:=6) rfl (by simp[Lk.cells]);rw[this];rfl
  have sx:bI (i3 l.p l.co l.cl) (i3 l.p l.co l.cl)=true:=by simp[bI,fc,cw]
  cases ok with
  |false=>
   simp only[aj,ak,bg,bn,cg,QM,WP,↓ab,undef,hn,h4,Wk,lo5,pl,pb,fV];refine LB.bS gl (by decide) aeJ rfl rfl rfl rfl (fun h=>cJ rfl h) ?_;intro u Am rT HB;have lo:=az.bd (P:=af) (cs:=l.cells) qh gl Am (c:=6) rfl;simp only[aj,al,oneOf,QM,WP,↓ab,aj,bg,bn,ax,oneOf,QM,WP,↓ab,hn,h4,a4,lo,b5];rw[eK,e,hU,Wj];exact⟨by simp,XE.trans ⟨by omega,fun j hj=>HB j (by omega)⟩⟩
  |true=>
   simp only[aj,ak,bg,bn,cg,ad,QM,WP,↓ab,hn,Wk,lo5,pl,pb,fV,IQ,ps,sx];refine(KF (lib:=dR) rfl (spare zz 0) l.p l.co l.cl).mono ?_;rintro _ Za ⟨rfl,XF⟩;refine⟨fun _=>LA.aw.qI gu (XF.weaken (by omega)),?_⟩;have Un:=aeJ.keeps XF;have IW:=aa6.keeps XF;have NC:aw s.next s Za:=XE.trans (XF.weaken XE.next);have nz:=XE.next;have pe:aN af Za 3 (.pointer (some ⟨s3.next,4,some 6⟩))=some (.int .i64 l.early):=IW.load aP (off:=4) (c:=6) rfl (by simp[Lk.cells]);have pp:aN af Za 3 (.pointer (some ⟨s3.next,0,some 6⟩))=some (.int .i64 l.p):=IW.load aP (off:=0) (c:=6) rfl (by simp[Lk.cells]);by_cases d1:pC l.p l.co l.cl;rotate_left
   ·rw[an d1] at hU|-
    simp only[aj,ak,bg,bn,QM,WP,↓ab,undef,hn,h4];refine LB.bS gl (by decide) Un rfl rfl rfl rfl (fun h=>cJ rfl h) ?_;intro u Am rT HB;have lo:=az.bd (P:=af) (cs:=l.cells) qh gl Am (c:=6) rfl;simp only[aj,al,oneOf,QM,WP,↓ab,aj,bg,bn,ax,oneOf,QM,WP,↓ab,hn,h4,a4,lo,b5];rw[eK,e,hU,Wj];exact⟨by simp,NC.trans ⟨by omega,fun j hj=>HB j (by omega)⟩⟩
   rw[ao d1] at hU|-
   by_cases d2:l.early=1;rotate_left
   ·rw[an d2] at hU;simp only[aj,ak,bg,bn,QM,WP,↓ab,undef,hn,h4,Wk,Ue,pe,av d2];refine LB.bS gl (by decide) Un rfl rfl rfl rfl (fun h=>cJ rfl h) ?_;intro u Am rT HB;have lo:=az.bd (P:=af) (cs:=l.cells) qh gl Am (c:=6) rfl;simp only[aj,al,oneOf,QM,WP,↓ab,aj,bg,bn,ax,oneOf,QM,WP,↓ab,hn,h4,a4,lo,b5];rw[eK,e,hU,Wj];exact⟨by simp,NC.trans ⟨by omega,fun j hj=>HB j (by omega)⟩⟩
   rw[ao d2] at hU;by_cases d3:l.p=1
   ·rw[ao d3] at hU;simp only[aj,ak,bg,bn,QM,WP,↓ab,undef,hn,h4,Wk,Ue,IQ,Ec,pe,pp,aC d2,aC d3];refine LB.bS gl (by decide) Un rfl rfl rfl rfl (fun h=>cJ rfl h) ?_;intro u Am rT HB;have lo:=az.bd (P:=af) (cs:=l.cells) qh gl Am (c:=6) rfl;simp only[aj,al,oneOf,QM,WP,↓ab,aj,bg,bn,ax,oneOf,QM,WP,↓ab,hn,h4,a4,lo,b5];rw[eK,e,hU,Wj];exact⟨by simp,NC.trans ⟨by omega,fun j hj=>HB j (by omega)⟩⟩
   rw[an d3] at hU;obtain⟨wn,wb⟩:=w5;cases wb with
   |false=>
    simp only[aj,ak,bg,bn,QM,WP,↓ab,undef,hn,h4,Wk,Ue,IQ,Ec,pe,pp,aC d2,av d3];refine LB.bS gl (by decide) Un rfl rfl rfl rfl (fun h=>cJ rfl h) ?_;intro u Am rT HB;have lo:=az.bd (P:=af) (cs:=l.cells) qh gl Am (c:=6) rfl;simp only[aj,al,oneOf,QM,WP,↓ab,aj,bg,bn,ax,oneOf,QM,WP,↓ab,hn,h4,a4,lo,b5];rw[eK,e,hU,Wj];exact⟨by simp,NC.trans ⟨by omega,fun j hj=>HB j (by omega)⟩⟩
   |true=>
    simp only[aj,ak,bg,bn,QM,WP,↓ab,hn,h4,Wk,Ue,IQ,Ec,pe,pp,aC d2,av d3];refine LB.bS gl (by decide) Un rfl rfl rfl rfl (fun h=>cJ rfl h) ?_;intro u Am rT HB;have lo:=az.bd (P:=af) (cs:=l.cells) qh gl Am (c:=6) rfl;simp only[aj,al,oneOf,QM,WP,↓ab,aj,bg,bn,ax,oneOf,QM,WP,↓ab,hn,h4,a4,lo,b5];rw[eK,e,hU,Wj];exact⟨by simp,NC.trans ⟨by omega,fun j hj=>HB j (by omega)⟩⟩
 rcases c7 with c7|c7
 ·simp only[aj,ak,QM,WP,↓ab,undef,hn,l2,c7];exact go _ (by simp only[ag,hn]) (by simp only[aa,↓ab,WP]) (by simp only[aa,↓ab,WP]) (by simp only[aa,↓ab,WP])
 have d70:decide ((7:dg)=0)=false:=rfl;simp only[aj,ak,QM,WP,↓ab,hn,oi,l2,b4,c7,d70];exact go _ (by simp only[ag,hn]) (by simp only[aa,↓ab,WP]) (by simp only[aa,↓ab,WP]) (by simp only[aa,↓ab,WP])
end Go.Proofs.YtdfjfncifneocaaGreat
namespace Go.Cl
theorem Es {P:Program}{s:au}{t e:TypeId}{k1 k2:IntKind}{b8 z:cv}{zv:bw}(hu:P.underlying t=some (.slice e))(cX:br P e=some z)(hz:b6 P e=some zv)(hb:dX P e=some b8)(pg:cr zv=true)(tq:ew zv.cells.toList.length z=true){n:cv}(hn:b8*n<=4294967296)(mf:n<=4294967296):
  dq P s t (.int k1 n) (.int k2 n)=a6 s (db zv.cells.toList n) n z:=by
 show(match P.underlying t,ey k1 (eA n),ey k2 (eA n) with
 |some (.slice e),.int _ (.ofNat l),.int _ (.ofNat c)=>
  match br P e,b6 P e,dX P e with
  |some n,some z,some kH=>
   if ed l c&&ed c 4294967296&&ed (kH*c) 4294967296&&cr z&&ew z.cells.toList.length n then a6 s (db z.cells.toList l) l n else none
  |_,_,_=>none
 |_,_,_=>none)=_
 rw[hu];simp only[cX,hz,hb];have hc:(ed n n&&ed n 4294967296&&ed (b8*n) 4294967296&&cr zv&&ew zv.cells.toList.length z)=true:=by
  simp only[Bool.and_eq_true,Nat.ble_eq];exact⟨⟨⟨⟨cM _,mf⟩,hn⟩,pg⟩,tq⟩
 rw[bk hc]
theorem ND:∀n,(db fC n).length=n*5
 |0=>by simp[db]
 |n+1=>by simp only[db,List.length_append,ND n];simp[fC];omega
theorem bX.Uo (F:cv->Prop)(s:au):∀n,bX dV 5 F s (cA n O.none) (db fC n)
 |0=>bX.nil
 |n+1=>by
  have h:=(bX.Uo F s n).snoc (show fC.length=5 from rfl) (dV.none F s);have e:∀n,db fC n++fC=fC++db fC n:=by
   intro n
   induction n with
   |zero=>simp[db]
   |succ n ih=>simp only[db,List.append_assoc,ih]
  rw[e] at h;rw[List.replicate_succ'];exact h
end Go.Cl
namespace Go.Cl.Ch
theorem mu (q:O)(k:b7 ea)(hq:Small q):Small (fP q k):=by
 unfold fP;split
 ·cases q with
  |mk kk n b L d=>
   cases hq with
   |mk hb hL hd hK hLs hD=>
    show Small (yU d k);unfold yU;split
    ·rename_i e he;exact hD _ (List.mem_of_find?_eq_some he)
    exact Small.none
 exact Small.none
def gi (o:O):b7 O×b7 O×dt:=
 if(fP o fh).kind=0 then([],[],true) else if(fP o fh).kind=5 then([fP o fh],[fP o lV],true)
 else if(fP o fh).kind=6 then(if(fP o lV).kind=0 then((fP o fh).items,cA (fP o fh).items.length O.none,true) else((fP o fh).items,(fP o lV).items,decide ((fP o lV).kind=6)&&decide ((fP o lV).items.length=(fP o fh).items.length)))
 else([],[],false)
theorem y7 {o:O}(iW:Small o):(∀x∈(gi o).1,Small x)/\(∀x∈(gi o).2.1,Small x)/\((gi o).2.2=true->(gi o).1.length=(gi o).2.1.length)/\(gi o).1.length<=100000:=by
 have h1:=mu o fh iW;have h2:=mu o lV iW;unfold gi;generalize fP o fh=f at h1|-
 generalize fP o lV=p at h2|-
 have i1:∀x∈f.items,Small x:=by cases h1 with|mk _ _ _ _ h=>exact h
 have i2:∀x∈p.items,Small x:=by cases h2 with|mk _ _ _ _ h=>exact h
 have i3:f.items.length<=100000:=by cases h1 with|mk _ h=>exact h
 split
 ·exact⟨by simp,by simp,fun _=>rfl,by simp⟩
 split
 ·exact⟨by simpa using h1,by simpa using h2,fun _=>rfl,by simp⟩
 split
 ·split
  ·exact⟨i1,fun x hx=>by rw[(eb.1 hx).2];exact Small.none,fun _=>by simp,i3⟩
  exact⟨i1,i2,fun h=>by simp at h;exact h.2.symm,i3⟩
 exact⟨by simp,by simp,fun _=>rfl,by simp⟩
end Go.Cl.Ch
namespace Go.Proofs.YtdfjfncifneocaaGreat
open Go.Cl Go.Cl.Pr Go.Cl.Ch
def Zb (s:au)(p:b7 O×b7 O×dt)(v:bw)(s' :au):Prop:=∃y z LC MC,v= .tuple #[y,z,.bool p.2.2]/\aU s' 5 y p.1.length LC/\aU s' 5 z p.2.1.length MC/\bX dV 5 (fun j=>s.next<=j) s' p.1 LC/\bX dV 5 (fun j=>s.next<=j) s' p.2.1 MC/\aw s.next s s'
theorem Ra (F:cv->Prop)(s:au)(cs:b7 bw)(o:O)(ho:dV F s cs o)(iW:Small o):
  Runs af dR 31 [.agg cs.toArray] s (Zb s (gi o)):=by
 have iz:=ho.len;obtain⟨QQ,eK⟩:∃QQ:bw->au->Prop,QQ=Zb s (gi o):=⟨_,rfl⟩
 rw[<-eK];refine Runs.enter 48 Tryz.func31 rfl rfl rfl rfl ?_;intro f hn hf;have h0:f.get 0= .agg cs.toArray:=hf 0;clear hf;have qB:fC.length+1=6:=rfl;have UO:=cT;simp only[aj,QM,↓ab,hn,h0];refine aA ?_;intro s1 eJ aY gG;have n1:=aY.next;simp only[aj,QM,bb,↓ab,hn,iz];obtain⟨A,hA⟩:∃A:cv->dt,A=fun j=>decide (j<s1.next):=⟨_,rfl⟩
 have gu:∀j,A j=true->j<s1.next:=by
  intro j h;rw[hA] at h;exact bt h
 have hAn:∀j,s1.next<=j->A j=false:=fun j h=>by rw[hA];exact an (by omega)
 have BR:A s.next=true:=by rw[hA];exact ao eJ.lt
 refine LB.cN.dx A gu 3 2 (by kernel_rfl) (by kernel_rfl) ?_;have dI:=aw.spare s1 2;have QN:(spare s1 2).next=s1.next+2:=bu _ _;have lo1:∀k,LA.di A (some (.pointer (some ⟨s.next,k,some 6⟩)))=true:=fun k=>LA.bN (A:=A) (i:=s.next) BR
 have p1:∀t,aw (spare s1 2).next (spare s1 2) t->aN af t 26 (.pointer (some ⟨s.next,0,some 6⟩))=some (.agg cs.toArray):=fun t h=>az.fi ((eJ.keeps dI).keeps h) iz
 have fL:aw s.next s (spare s1 2):=aY.trans (dI.weaken n1);simp only[aj,ak,bg,bn,ch,ad,QM,WP,↓ab,hn,lo1,p1 _ (aw.refl _ _),ho.self];refine(Er F (spare s1 2) cs o (ho.keeps fL) iW fh).mono ?_;rintro _ a ⟨ca,rfl,oa,ka⟩;have ma:=ka.next;refine⟨fun _=>LA.aw.qI gu (ka.weaken (by omega)),?_⟩;simp only[aj,ak,bg,bn,ch,ad,QM,WP,↓ab,hn,lo1,p1 _ ka,ho.self];refine(Er F a cs o (ho.keeps (fL.trans (ka.weaken (by omega)))) iW lV).mono ?_;rintro _ b ⟨cb,rfl,ob,kb⟩;have mb:=kb.next;refine⟨fun _=>LA.aw.qI gu (kb.weaken (by omega)),?_⟩;simp only[aj,↓ab,zO,Ac];refine LB.gU (by omega) ?_;intro c iy j6 qO;simp only[aj,bn,QM,↓ab,hn,zO,Ac,qB];refine LB.gU (by omega) ?_;intro d yp wi NF;simp only[aj,bn,QM,WP,↓ab,hn,qB];refine LB.bS kn (by decide) (iy.aK wi NF (by omega)) rfl rfl (by simpa using oa.len) oa.ok (fun _=>hAn _ (by omega)) ?_;intro e Zc Mb Up;simp only[aj,bn,cg,QM,WP,↓ab,hn];refine LB.bS kn (by decide) (yp.aK Mb Up (by omega)) rfl rfl (by simpa using ob.len) ob.ok (fun _=>hAn _ (by omega)) ?_;intro g Ph Bg Uq;have Wl:az g s1.next ca:=Zc.aK Bg Uq (by omega);have Ph:az g (s1.next+1) cb:=Ph;have kg:∀j,j≠s1.next->j≠s1.next+1->g.heap.get j=b.heap.get j:=fun j e1 e2=>by rw[Uq j e2,Up j e1,NF j e2,qO j e1]
 have ng:g.next=b.next:=by omega
 have Rb:dV (fun j=>s.next<=j) g ca (fP o fh):=(((((oa.keeps kb).aK j6 qO (by omega)).aK wi NF (by omega)).aK Mb Up (by omega)).aK Bg Uq (by omega)).mono (fun j hj=>by omega);have Rc:dV (fun j=>s.next<=j) g cb (fP o lV):=((((ob.aK j6 qO (by omega)).aK wi NF (by omega)).aK Mb Up (by omega)).aK Bg Uq (by omega)).mono (fun j hj=>by omega);have oZ:aw s.next s g:=((fL.trans (ka.weaken (by omega))).trans (kb.weaken (by omega))).trans ⟨by omega,fun j hj=>kg j (by omega) (by omega)⟩;have hsF:=mu o fh iW;have hsP:=mu o lV iW;clear oa ob ka kb ma mb iy j6 qO yp wi NF Zc Mb Up Bg Uq kg;obtain⟨fo,L2⟩:∃q,q=fP o fh:=⟨_,rfl⟩
 obtain⟨po,Wz⟩:∃q,q=fP o lV:=⟨_,rfl⟩
 have xP:gi o=if fo.kind=0 then([],[],true) else if fo.kind=5 then([fo],[po],true) else if fo.kind=6 then(if po.kind=0 then(fo.items,cA fo.items.length O.none,true) else(fo.items,po.items,decide (po.kind=6)&&decide (po.items.length=fo.items.length))) else([],[],false):=by unfold gi;rw[<-L2,<-Wz]
 rw[<-L2] at Rb hsF;rw[<-Wz] at Rc hsP;have la:=Rb.len;have lb:=Rc.len;obtain⟨q0,-⟩:=dV.rL Rb;obtain⟨r0,-⟩:=dV.rL Rc;have f0:aN af g 3 (.pointer (some ⟨s1.next,0,some 6⟩))=some (.int .i64 fo.kind):=by
  have:=Wl.load (P:=af) aP (off:=0) (c:=6) (by omega) (by omega);rw[this,q0]
 have f1:aN af g 3 (.pointer (some ⟨s1.next+1,0,some 6⟩))=some (.int .i64 po.kind):=by
  have:=Ph.load (P:=af) aP (off:=0) (c:=6) (by omega) (by omega);rw[this,r0]
 by_cases c0:fo.kind=0
 ·simp only[aj,al,oneOf,QM,WP,↓ab,aj,bn,ax,oneOf,QM,WP,↓ab,hn,oi,f0,aC c0,cm];rw[eK,xP,bk c0];exact⟨_,_,[],[],rfl,.nil,.nil,bX.nil,bX.nil,oZ⟩
 obtain⟨B,hB⟩:∃B:cv->dt,B=fun j=>decide (j<g.next):=⟨_,rfl⟩
 have Em:∀j,B j=true->j<g.next:=by
  intro j h;rw[hB] at h;exact bt h
 have ua:B s1.next=true:=by rw[hB];exact ao Wl.lt
 have kQ:B (s1.next+1)=true:=by rw[hB];exact ao Ph.lt
 have lw1:∀k,LA.di B (some (.pointer (some ⟨s1.next,k,some 6⟩)))=true:=fun k=>LA.bN (A:=B) (i:=s1.next) ua
 have lw2:∀k,LA.di B (some (.pointer (some ⟨s1.next+1,k,some 6⟩)))=true:=fun k=>LA.bN (A:=B) (i:=s1.next+1) kQ
 by_cases c5:fo.kind=5
 ·simp only[aj,QM,WP,↓ab,aj,bn,ax,QM,WP,↓ab,hn,oi,f0,av c0,aC c5];refine LB.cN.dx B Em 0 2 (by kernel_rfl) (by kernel_rfl) ?_;have js:=aw.spare g 2;have Fo:(spare g 2).next=g.next+2:=bu _ _;have oq:=Rb.keeps js;have bq:=Rc.keeps js;simp only[aj,bg,bn,ae,QM,WP,↓ab,hn,lw1,az.fi (Wl.keeps js) la,Rb.self,gn (cs:=ca.toArray) UO kn zO Ac rfl la (by decide)];refine LB.bR (base:=g.next) la (by omega) (cM _) ?_;intro u b2 hu fM kb nb ob2;have hsu:aw g.next g b2:=js.trans kb;simp only[aj,bg,bn,ae,QM,WP,↓ab,hn,lw2,az.fi (Ph.keeps hsu) lb,Rc.self,gn (cs:=cb.toArray) UO kn zO Ac rfl lb (by decide)];refine LB.bR (base:=g.next) lb (by omega) (by omega) ?_;intro w b3 hw hiw kc nc oc;have Qm:aw g.next g b3:=hsu.trans kc;have HB:Own b3 5 u 1 ca:=hu.aK nc oc (by rw[fM];intro e;injection e with e;omega);simp only[aj,al,oneOf,QM,WP,↓ab,aj,bg,bn,oneOf,QM,WP,↓ab,hn,hu.self,hw.self,cm];rw[eK,xP,a8 c0,bk c5];exact⟨u,w,ca,cb,rfl,HB.aL,hw.aL,by simpa using bX.nil.snoc la (Rb.keeps Qm),by simpa using bX.nil.snoc lb (Rc.keeps Qm),oZ.trans (Qm.weaken oZ.next)⟩
 by_cases c6:fo.kind=6;rotate_left
 ·simp only[aj,al,oneOf,QM,WP,↓ab,aj,bn,ax,oneOf,QM,WP,↓ab,hn,oi,f0,av c0,av c5,av c6,cm];rw[eK,xP,a8 c0,a8 c5,a8 c6];exact⟨_,_,[],[],rfl,.nil,.nil,bX.nil,bX.nil,oZ⟩
 obtain⟨y,LC,hy,hY,Ur⟩:∃y LC,ca.getD 3 undef=y/\aU g 5 y fo.items.length LC/\bX dV 5 (fun j=>s.next<=j) g fo.items LC:=by
  cases fo with
  |mk k m b l d=>obtain⟨bv,lv,dv,lc,dc,rfl,h1,h2,h3,h4,h5,h6,h7,h8⟩:=Rb.parts;exact⟨lv,lc,rfl,h2,h7⟩
 obtain⟨z,MC,hz,hZ,XG⟩:∃y LC,cb.getD 3 undef=y/\aU g 5 y po.items.length LC/\bX dV 5 (fun j=>s.next<=j) g po.items LC:=by
  cases po with
  |mk k m b l d=>obtain⟨bv,lv,dv,lc,dc,rfl,h1,h2,h3,h4,h5,h6,h7,h8⟩:=Rc.parts;exact⟨lv,lc,rfl,h2,h7⟩
 have f3:∀t,aw g.next g t->aN af t 23 (.pointer (some ⟨s1.next,3,some 6⟩))=some y:=fun t h=>by
  have:=(Wl.keeps h).load (P:=af) Ad (off:=3) (c:=6) (by omega) (by omega);rw[this,hy]
 have p3:∀t,aw g.next g t->aN af t 23 (.pointer (some ⟨s1.next+1,3,some 6⟩))=some z:=fun t h=>by
  have:=(Ph.keeps h).load (P:=af) Ad (off:=3) (c:=6) (by omega) (by omega);rw[this,hz]
 have hfl:fo.items.length<=100000:=by cases hsF with|mk hb hl=>exact hl
 by_cases p0:po.kind=0
 ·simp only[aj,QM,WP,↓ab,aj,bn,ax,QM,WP,↓ab,hn,oi,f0,f1,av c0,av c5,aC c6,aC p0];refine LB.cN.dx B Em 0 1 (by kernel_rfl) (by kernel_rfl) ?_;have js:=aw.spare g 1;have Fo:(spare g 1).next=g.next+1:=bu _ _;have YN:∀t:au,dq af t 23 (.int .i64 (fo.items.length:cv)) (.int .i64 (fo.items.length:cv))=a6 t (db fC fo.items.length) fo.items.length 5:=fun t=>Es UO kn zO byO Ac rfl (by omega) (by omega)
  simp only[aj,bg,bn,ad,QM,WP,↓ab,hn,lw1,BT,f3 _ js,hY.self,(hY.keeps js).aQ UO,LA.rB hY,YN];refine LB.bR (base:=g.next) (n:=fo.items.length) (z:=5) (ND _) (by omega) (cM _) ?_;intro u b2 hu fM kb nb ob2;have hsu:aw g.next g b2:=js.trans kb;simp only[aj,al,oneOf,QM,WP,↓ab,aj,bg,bn,oneOf,QM,WP,↓ab,hn,hu.self,hY.self,cm];rw[eK,xP,a8 c0,a8 c5,bk c6,bk p0];exact⟨y,u,LC,_,rfl,hY.keeps hsu,by rw[dw];exact hu.aL,Ur.keeps dQ hsu,bX.Uo _ _ _,oZ.trans (hsu.weaken oZ.next)⟩
 by_cases p6:po.kind=6
 ·simp only[aj,ak,al,oneOf,ad,QM,WP,↓ab,aj,ak,bn,ax,oneOf,ad,QM,WP,↓ab,undef,hn,oi,BT,f0,f1,f3 _ (aw.refl _ _),p3 _ (aw.refl _ _),hY.self,hZ.self,hY.aQ UO,hZ.aQ UO,av c0,av c5,aC c6,av p0,aC p6,cm];rw[eK,xP,a8 c0,a8 c5,bk c6,a8 p0,ao p6];exact⟨y,z,LC,MC,by simp,hY,hZ,Ur,XG,oZ⟩
 simp only[aj,ak,al,oneOf,QM,WP,↓ab,aj,ak,bn,ax,oneOf,QM,WP,↓ab,undef,hn,oi,BT,f0,f1,f3 _ (aw.refl _ _),p3 _ (aw.refl _ _),hY.self,hZ.self,av c0,av c5,aC c6,av p0,av p6,cm];rw[eK,xP,a8 c0,a8 c5,bk c6,a8 p0,an p6];exact⟨y,z,LC,MC,rfl,hY,hZ,Ur,XG,oZ⟩
end Go.Proofs.YtdfjfncifneocaaGreat
namespace Go.Cl.Ch
def fR:b7 O->b7 O->Option (b7 Lk)
 |n::N,p::P=>if(kK n p).2=true then(fR N P).map ((kK n p).1::·) else none
 |_,_=>some []
def df (o:O):b7 Lk×dg:=
 if o.kind≠8 then([],1) else if(gi o).2.2=false\/8<(gi o).1.length then([],4)
 else match fR (gi o).1 (gi o).2.1 with
  |none=>([],4)
  |some L=>(L,0)
end Go.Cl.Ch
namespace Go.Proofs.YtdfjfncifneocaaGreat
open Go.Cl Go.Cl.Pr Go.Cl.Ch
def Pj (s:au)(p:b7 Lk×dg)(v:bw)(s' :au):Prop:=∃y,v= .tuple #[y,.int .i64 p.2]/\Own s' 5 y p.1.length (wE p.1)/\aM s.next y/\aw s.next s s'
theorem uR (F:cv->Prop)(s:au)(cs:b7 bw)(o:O)(ho:dV F s cs o)(iW:Small o):
  Runs af dR 12 [.agg cs.toArray] s (Pj s (df o)):=by
 have iz:=ho.len;obtain⟨QQ,eK⟩:∃QQ:bw->au->Prop,QQ=Pj s (df o):=⟨_,rfl⟩
 rw[<-eK];refine Runs.enter 52 Tryz.func12 rfl rfl rfl rfl ?_;intro f hn hf;have h0:f.get 0= .agg cs.toArray:=hf 0;clear hf;have UO:=cT;have UK:=Tryz.underlying31;simp only[aj,QM,↓ab,hn,h0];refine aA ?_;intro s1 eJ aY gG;have n1:=aY.next;obtain⟨q0,-⟩:=dV.rL ho;have l0:aN af s1 3 (.pointer (some ⟨s.next,0,some 6⟩))=some (.int .i64 o.kind):=by
  have:=eJ.load (P:=af) aP (off:=0) (c:=6) (by omega) (by omega);rw[this,q0]
 by_cases c8:o.kind=8;rotate_left
 ·simp only[aj,ak,al,oneOf,QM,WP,bb,↓ab,hn,iz,oi,l0,b4,an c8,cB];have e:df o=([],1):=by unfold df;rw[bk c8]
  rw[eK,e];exact⟨_,rfl,.nil,aM.nil _,aY⟩
 simp only[aj,ak,ad,QM,WP,bb,↓ab,hn,iz,oi,l0,b4,ao c8,az.fi eJ iz];refine(Ra F s1 cs o (ho.keeps aY) iW).mono ?_;obtain⟨R,hR⟩:∃R,R=gi o:=⟨_,rfl⟩
 have xP:df o=if R.2.2=false\/8<R.1.length then(([],4):b7 Lk×dg) else match fR R.1 R.2.1 with
  |none=>([],4)
  |some L=>(L,0):=by unfold df;rw[a8 (fun h=>h c8),<-hR]
 have Gf:(∀x∈R.1,Small x)/\(∀x∈R.2.1,Small x)/\(R.2.2=true->R.1.length=R.2.1.length)/\R.1.length<=100000:=by rw[hR];exact y7 iW
 rw[<-hR];rintro _ s2 ⟨y,z,LC,MC,rfl,hY,hZ,Ur,XG,k2⟩;obtain⟨N,M,t⟩:=R;dsimp only at hY hZ Ur XG xP Gf|-
 obtain⟨fL,dA,iT,qi⟩:=Gf;have n2:=k2.next;have x0:aH (.tuple #[y,z,.bool t]) 0=some y:=rfl;have x1:aH (.tuple #[y,z,.bool t]) 1=some z:=rfl;have x2:aH (.tuple #[y,z,.bool t]) 2=some (.bool t):=rfl;have aR:aw s.next s s2:=aY.trans (k2.weaken n1);cases t with
 |false=>
  simp only[aj,ak,al,oneOf,QM,WP,↓ab,undef,hn,x0,x1,x2,cB];rw[eK,xP,bk (.inl rfl)];exact⟨_,rfl,.nil,aM.nil _,aR⟩
 |true=>
 by_cases c9:8<N.length
 ·have d9:((N.length:cv):dg)>8:=by omega
  simp only[aj,ak,al,oneOf,ad,QM,WP,↓ab,hn,x0,x1,x2,hY.aQ UO,aC d9,cB];rw[eK,xP,bk (.inr c9)];exact⟨_,rfl,.nil,aM.nil _,aR⟩
 have d9:¬((N.length:cv):dg)>8:=by omega
 rw[a8 (show¬(true=false\/8<N.length) from fun h=>h.elim (fun h=>by cases h) c9)] at xP;have YI:N.length=M.length:=iT rfl;have IU:b6 af 58=some (eN ⟨0,0,0,[],0⟩):=by kernel_rfl
 have vS:cr (eN ⟨0,0,0,[],0⟩)=true:=by kernel_rfl
 have Us:dX af 58=some 48:=by kernel_rfl
 have Sx:(⟨0,0,0,[],0⟩:Lk).cells.length+1=6:=rfl;simp only[aj,ak,ad,QM,WP,↓ab,hn,x0,x1,x2,hY.aQ UO,av d9];refine Comes.bD (fun q f t=>∃(i:cv) (v:bw) (L:b7 Lk),q=N.length-i/\i<=N.length/\L.length=i/\fR N M=(fR (N.drop i) (M.drop i)).map (L++·)/\Own t 5 v i (wE L)/\aM s2.next v/\aw s2.next s2 t/\f.n=52/\f.get 4=y/\f.get 5=z/\f.get 7=v/\f.get 28= .int .i64 (N.length:cv)/\f.get 29= .int .i64 (i:cv))
  (fun q f t=>(q= .ret/\fR N M=none/\aw s2.next s2 t/\f.n=52/\f.get 2= .slice none 0 0/\f.get 3= .int .i64 4)\/(q= .exit 0/\∃v L,fR N M=some L/\L.length=N.length/\Own t 5 v N.length (wE L)/\aM s2.next v/\aw s2.next s2 t/\f.n=52/\f.get 7=v))
  ⟨0,.slice none 0 0,[],rfl,by omega,rfl,by simp,.nil,aM.nil _,aw.refl _ _,by simp only[aa,ag,↓ab,WP,hn,ee];rfl⟩ ?_ ?_
 ·clear hn h0 f;rintro Q hQ q f t ⟨i,v,L,rfl,hi,hLi,hM,hv,xp,aF,hn,h4,h5,h7,Wm,XH⟩;have nt:=aF.next;by_cases a7:i<N.length;rotate_left
  ·obtain rfl:i=N.length:=by omega
   have d1:¬((N.length:cv):dg)<((N.length:cv):dg):=by omega
   rw[eg] at hM;simp only[aj,QM,↓ab,hn,Wm,XH,av d1];exact hQ _ _ _ (.inr ⟨rfl,v,L,by rw[hM];simp[fR],hLi,hv,xp,aF,by simp only[aa,ag,↓ab,WP,hn,h7,ep]⟩)
  have d1:(i:dg)<(N.length:dg):=by omega
  have zN:i<M.length:=by omega
  have Ut:=hY.keeps aF;have XI:=hZ.keeps aF;have fk:=Ut.indexAddr (P:=af) (k:= .i64) (x:=(i:dg)) UO kn (by omega) (by omega);have Z8:=XI.indexAddr (P:=af) (k:= .i64) (x:=(i:dg)) UO kn (by omega) (by omega);rw[c4] at fk Z8;have XJ:=(Ur.keeps dQ aF).row i a7;have er:=(XG.keeps dQ aF).row i zN;have hdN:N.drop i=N[i]::N.drop (i+1):=cd a7;have hdM:M.drop i=M[i]::M.drop (i+1):=cd zN;rw[hdN,hdM] at hM;simp only[fR] at hM;have vM:=fL _ (cx a7);have dI:=dA _ (cx zN);generalize N[i]=no at hM XJ vM;generalize M[i]=po at hM er dI;simp only[aj,QM,WP,↓ab,hn,Wm,XH,aC d1];obtain⟨B,hB⟩:∃B:cv->dt,B=fun j=>decide (j<t.next):=⟨_,rfl⟩
  have Em:∀j,B j=true->j<t.next:=by
   intro j h;rw[hB] at h;exact bt h
  have Zd:∀j,j<t.next->B j=true:=fun j h=>by rw[hB];exact ao h
  refine LB.cN.dx B Em 1 1 (by kernel_rfl) (by kernel_rfl) ?_;have js:=aw.spare t 1;have Fo:(spare t 1).next=t.next+1:=bu _ _;have eF:=(Ut.keeps js).fZ (P:=af) Bi kn a7;have hlz:=(XI.keeps js).fZ (P:=af) Bi kn zN;generalize (LC.drop (i*5)).take 5=cn at eF XJ;generalize (MC.drop (i*5)).take 5=cp at hlz er;simp only[aj,ak,bg,bn,cg,ad,QM,WP,↓ab,hn,h4,h5,Ut.self,XI.self,fk,Z8,eF,hlz,LA.gh Ut Zd a7,LA.gh XI Zd zN,XJ.self,er.self];refine(Uk _ _ (spare t 1) cn cp no po (XJ.keeps js) (er.keeps js) dI).mono ?_;rintro _ t2 ⟨rfl,k3⟩;have n3:=k3.next;refine⟨fun _=>LA.aw.qI Em (k3.weaken (by omega)),?_⟩;obtain⟨R,hR⟩:∃R,R=kK no po:=⟨_,rfl⟩
  rw[<-hR] at hM|-
  obtain⟨l,b⟩:=R;have y0:aH (.tuple #[eN l,.bool b]) 0=some (eN l):=rfl;have y1:aH (.tuple #[eN l,.bool b]) 1=some (.bool b):=rfl;have fV:bI (eN l) (eN l)=true:=by simp[bI,fc,cw,Lk.cells]
  have Uu:bI (.tuple #[eN l,.bool b]) (.tuple #[eN l,.bool b])=true:=by simp[bI,qp,wJ,fc,cw,Lk.cells]
  simp only[aj,bg,bn,QM,WP,↓ab,hn,y0,y1,fV,Uu,IU,vS];refine LB.gU (by omega) ?_;intro t3 iy j6 qO;have iy:az t3 t.next (⟨0,0,0,[],0⟩:Lk).cells:=iy;simp only[aj,bn,QM,WP,↓ab,hn,Sx];refine LB.bS gl (by decide) iy rfl rfl rfl rfl (fun h=>cJ rfl h) ?_;intro t4 yp wi NF;have yp:az t4 t.next l.cells:=yp;have k4:aw t.next t t4:=(js.trans (k3.weaken (by omega))).trans ⟨by omega,fun j hj=>by rw[NF j (by omega),qO j (by omega)]⟩;have m4:=k4.next;have Uv:=hv.keeps k4;have eP:=aF.trans (k4.weaken nt);cases b with
  |false=>
   dsimp only at hM;rw[a8 (by decide)] at hM;simp only[aj,QM,WP,↓ab,aj,bg,bn,ax,QM,WP,↓ab,hn];exact hQ _ _ _ (.inl ⟨rfl,by rw[hM];rfl,eP,by simp only[aa,ag,↓ab,WP,hn,ep]⟩)
  |true=>
  dsimp only at hM;rw[bk rfl] at hM;have la2:aN af t4 58 (.pointer (some ⟨t.next,0,some 6⟩))=some (eN l):=az.bd (P:=af) (cs:=l.cells) qh gl yp (c:=6) rfl;simp only[aj,ae,QM,WP,↓ab,aj,bg,bn,ax,ae,QM,WP,↓ab,hn,h7,la2,gn (cs:=l.cells.toArray) UK gl IU vS rfl rfl (by decide)];refine bc (by rfl) ?_;intro w t5 hw xg k5;have m5:=k5.next;simp only[aj,ad,QM,WP,↓ab,hn];refine gb UK UK (.inl ⟨_,rfl⟩) gl Us IU rfl (Uv.keeps k5) hw.aL.src rfl (by decide) rfl (by omega) (by omega) xp (by omega) ?_;intro v' t6 hv' aba k6 _ _;simp(disch:=omega)only[aj,QM,WP,↓ab,hn,XH,aB];refine ar (N.length-(i+1)) (by omega) ⟨i+1,v',L++[l],rfl,by omega,by simp[hLi],?_,by rw[xo];simpa [wE] using hv',aba,(eP.trans (k5.weaken (by omega))).trans k6,by simp only[ag,hn],by simp only[aa,↓ab,WP,h4],by simp only[aa,↓ab,WP,h5],by simp only[aa,↓ab,WP],by simp only[aa,↓ab,WP,Wm],by simp only[aa,↓ab];rfl⟩;rw[hM,Option.map_map]
  congr 1
  funext x
  simp
 clear hn h0 f;rintro _ f u (⟨rfl,hM,hu,hn,h2,h3⟩|⟨rfl,v,L,hM,hLl,hv,xp,hu,hn,h7⟩)
 ·rw[hM] at xP;simp only[aj,al,oneOf,QM,↓ab,hn,h2,h3,cB];rw[eK,xP];exact⟨_,rfl,.nil,aM.nil _,aR.trans (hu.weaken aR.next)⟩
 rw[hM] at xP;simp only[aj,al,oneOf,QM,WP,↓ab,hn,h7,cB];rw[eK,xP];exact⟨v,rfl,by rw[<-hLl] at hv;exact hv,fun j hj=>by have:=xp j hj;have:=aR.next;omega,aR.trans (hu.weaken aR.next)⟩
theorem kr:br af 68=some 5:=by kernel_rfl
theorem aeN {s:au}{v:bw}{n:cv}{l:b7 bw}(h:aU s 5 v n l){k:cv}(hk:k<n):ay af 68 (aX 5 v k) 0=some (bP (aX 5 v k) 0)/\ay af 68 (aX 5 v k) 1=some (bP (aX 5 v k) 3)/\ay af 66 (bP (aX 5 v k) 0) 0=some (bP (aX 5 v k) 0):=by
 obtain⟨i,off,c,e1,_⟩:=h.cells hk;rw[e1];refine⟨?_,?_,?_⟩
 ·unfold ay;rw[ck];simp[bP,Hq]
 ·unfold ay;rw[ck];simp[bP,xk]
 unfold ay;rw[Tryz.underlying66];simp[bP,aV]
end Go.Proofs.YtdfjfncifneocaaGreat
namespace Go.Proofs.YtdfjfncifneocaaGreat
open Go.Cl Go.Lib
theorem Uw {lib:aD}(hl:lib.at 57=none)(F:cv->Prop)(s:au)(cs:b7 bw)(o:O)(ho:dV F s cs o):
  Runs af lib 57 [.agg cs.toArray] s (Has s o):=by
 cases o with
 |mk kind num b l d=>
 obtain⟨bv,lv,dv,lc,dc,rfl,-⟩:=ho.parts;refine Runs.enter 11 Tryz.func57 rfl hl rfl rfl ?_;intro f hn hf;have h0:f.get 0= .agg #[.int .i64 kind,.int .i64 num,bv,lv,dv]:=hf 0;clear hf;simp only[aj,QM,↓ab,hn,h0];refine aA ?_;intro s1 eJ aY gG;have p0:aN af s1 3 (.pointer (some ⟨s.next,0,some 6⟩))=some (.int .i64 kind):=eJ.load aP (off:=0) (c:=6) rfl (by simp);by_cases c7:kind=7
 ·simp only[aj,ak,al,oneOf,QM,WP,bb,↓ab,hn,eh,ek,oi,p0,aC c7,et];exact⟨by simp[O.has,O.kind,c7],aY⟩
 simp only[aj,ak,al,oneOf,QM,WP,bb,↓ab,hn,eh,ek,oi,p0,av c7,et];exact⟨by simp[O.has,O.kind,c7];congr,aY⟩
structure amb (lib:aD):Prop where
 copy:lib.at 56=none
 amc:lib.at 39=none
 has:lib.at 57=none
 wit:lib.at 96=none
 set:lib.at 54=none
 ais:lib.at 55=none
 stream:lib.at 27=none
 get:lib.at 33=none
 arr:lib.at 51=none
 name:lib.at 29=none
theorem BV.none {s t:au}(h:aw s.next s t):BV s O.none (.agg fC.toArray) t:=⟨0,0,[],[],[],_,_,_,[],[],rfl,rfl,.nil,aM.nil _,.nil,.nil,trivial,trivial,bX.nil,bX.nil,h⟩
theorem BV.put {s t t' u:au}{o:O}{v:bw}{i:cv}(h:BV t o v t')(hs:aw s.next s t)(hi:i<t.next)(hsi:s.next<=i)(h1:u.next=t'.next)(h2:∀q,q≠i->u.heap.get q=t'.heap.get q):BV s o v u:=by
 obtain⟨k,n,b,l,d,bv,lv,dv,lc,dc,rfl,rfl,g1,g2,g3,g4,g5,g6,g7,g8,g9⟩:=h;have hn:=hs.next;have hu:bG (.pointer (some ⟨i,0,Option.none⟩)) t' u:=bG.aK h1 h2;have cE:∀j,t.next<=j/\aI lv≠some j->aI (.pointer (some ⟨i,0,Option.none⟩))≠some j:=fun j hj e=>by
  have e:some i=some j:=e;injection e with e;have:=hj.1;omega
 have hm:∀j,t.next<=j/\aI lv≠some j->s.next<=j/\aI lv≠some j:=fun j hj=>⟨by have:=hj.1;omega,hj.2⟩
 exact⟨k,n,b,l,d,bv,lv,dv,lc,dc,rfl,rfl,g1.turns hu (fun j hj e=>by have e:some i=some j:=e;injection e with e;have:=g2 j hj;omega),fun j hj=>by have:=g2 j hj;omega,g3.qA g5 hu cE,g4.qA g6 hu cE,g5.mono hm,g6.mono hm,(g7.turns dQ hu cE).mono dQ hm,(g8.turns km hu cE).mono km hm,(hs.trans (g9.weaken hn)).trans ⟨by omega,fun j hj=>h2 j (by omega)⟩⟩
theorem NG {lib:aD}(hl:lib.at 29=none)(s:au)(b:b7 ea)(hb:b.length<=4294967296):Runs af lib 29 [.string ⟨b.toArray⟩] s (su s (.mk 5 0 b [] [])):=by
 refine Runs.enter 6 Tryz.func29 rfl hl rfl rfl ?_;intro f hn hf;have h0:f.get 0= .string ⟨b.toArray⟩:=hf 0;clear hf;simp only[aj,↓ab,zO,Ac];refine aA ?_;intro s1 eJ aY gG;have qB:fC.length+1=6:=rfl;simp(disch:=omega)only[aj,QM,WP,↓ab,hn,h0,qB,Hi (s:=s1) (a:=b) dk cL ds];refine bc (by simp[eW]) ?_;intro w s2 hw xg aR;have gF:=hw.aL.aT;simp only[aj,ae,QM,WP,↓ab,hn,bO2 5 hw.aL.sZ];refine aG kn (by decide) (eJ.keeps aR) rfl rfl rfl (by simp only[List.all_cons,List.all_nil,gF];rfl) ?_;intro s3 jE Ga QZ;simp only[aj,al,oneOf,QM,WP,↓ab,hn,az.fi jE rfl,a4,Tryz.results29];exact su.put (F:=fun j=>s1.next<=j) (cs:=[.int .i64 5,.int .i64 0,w,.slice none 0 0,.slice none 0 0]) (dV.whole hw.aL .nil .nil (gq.fresh xg) trivial trivial bX.nil bX.nil) (fun j hj=>⟨by omega,by omega⟩) Ga QZ (aY.trans (aR.weaken aY.next)) (cM _)
theorem aeO {lib:aD}(hl:lib.at 33=none)(hle:lib.at 57=none)(yf:lib.at 56=none)(DY:lib.at 39=none)(F:cv->Prop)(s:au)(cs:b7 bw)(o:O)(ho:dV F s cs o)(iW:Small o)(k:b7 ea):
  Runs af lib 33 [.agg cs.toArray,.string ⟨k.toArray⟩] s (BV s (fP o k)):=by
 have iz:=ho.len;refine Runs.enter 31 Tryz.func33 rfl hl rfl rfl ?_;intro f hn hf;have h0:f.get 0= .agg cs.toArray:=hf 0;have h1:f.get 1= .string ⟨k.toArray⟩:=hf 1;clear hf;simp only[aj,QM,↓ab,hn,h0];refine aA ?_;intro s1 eJ aY gG;have qB:fC.length+1=6:=rfl;simp only[aj,QM,bb,↓ab,hn,iz,zO,Ac];refine aA ?_;intro s2 dK aR jD;have dA:aw s.next s s2:=aY.trans (aR.weaken (by omega));have vO:=eJ.keeps aR;simp only[aj,ak,ad,QM,WP,↓ab,hn,az.fi vO iz,qB];refine(Uw hle F s2 cs o (ho.keeps dA)).mono ?_;rintro _ s3 ⟨rfl,bA⟩;have vP:=vO.keeps bA;have aiu:=dK.keeps bA;have iT:=dA.trans (bA.weaken dA.next);cases hh:o.has with
 |false=>
  have e:fP o k=O.none:=by unfold fP;rw[hh];rfl
  rw[e];have gZ:=aY.next;have mf:=dA.next;have oX:=(bA).next;simp only[aj,ae,QM,WP,↓ab,hn,bO0];refine aG kn (by decide) (dK.keeps bA) rfl rfl rfl rfl ?_;intro q5 py Ae pz;simp only[aj,al,oneOf,QM,WP,↓ab,hn,az.fi py rfl,a4,dP];exact BV.none ((iT).trans ⟨by omega,fun j hj=>pz j (by omega)⟩)
 |true=>
 cases o with
 |mk kind num b l d=>
 obtain⟨bv,lv,dv,lc,dc,rfl,hb,hL,hD,fb,fl,fd,rl,rd⟩:=ho.parts;cases iW with
 |mk fp iG yp hK1 Wb Su=>
 have hg:fP (.mk kind num b l d) k=yU d k:=by unfold fP;rw[hh];rfl
 have D8:=hD.keeps iT;have l9:aN af s3 24 (.pointer (some ⟨s.next,4,some 6⟩))=some dv:=vP.load yQ (off:=4) (c:=6) rfl (by simp);simp only[aj,QM,↓ab,hn];refine Comes.bD (fun z f t=>∃i:cv,z=d.length-i/\i<=d.length/\(∀j (h:j<d.length),j<i->d[j].1≠k)/\aw s2.next s2 t/\f.n=31/\f.get 1= .string ⟨k.toArray⟩/\f.get 2= .pointer (some ⟨s.next,0,some 6⟩)/\f.get 4= .pointer (some ⟨s1.next,0,some 6⟩)/\f.get 5= .int .i64 (i:cv))
  (fun z f t=>(z= .ret/\f.n=31/\f.get 4= .pointer (some ⟨s1.next,0,some 6⟩)/\∃gY,gY.length=5/\az t s1.next gY/\BV s (fP (.mk kind num b l d) k) (.agg gY.toArray) t)\/(z= .exit 0/\f.n=31/\f.get 4= .pointer (some ⟨s1.next,0,some 6⟩)/\fP (.mk kind num b l d) k=O.none/\aw s2.next s2 t))
  ⟨0,rfl,by omega,fun j h h' =>by omega,bA,by simp only[aa,ag,↓ab,WP,hn,h1,ee];rfl⟩ ?_ ?_
 ·clear hn h0 h1 f;rintro Q hQ z f t ⟨i,rfl,hi,hP,aF,hn,h1,h2,h4,h5⟩;have F5:aw s.next s t:=dA.trans (aF.weaken dA.next);have We:=hD.keeps F5;have l10:aN af t 24 (.pointer (some ⟨s.next,4,some 6⟩))=some dv:=(vO.keeps aF).load yQ (off:=4) (c:=6) rfl (by simp);by_cases a7:i<d.length;rotate_left
  ·obtain rfl:i=d.length:=by omega
   have d1:¬((d.length:cv):dg)<((d.length:cv):dg):=by omega
   simp only[aj,ak,ad,QM,WP,↓ab,hn,h2,h5,BU,l10,We.aQ cD,av d1];exact hQ _ _ _ (.inr ⟨rfl,by simp only[ag,hn],by simp only[aa,↓ab,WP,h4],by rw[hg];exact D7 (fun j h=>hP j h h),aF⟩)
  have d1:(i:dg)<(d.length:dg):=by omega
  have fk:=We.indexAddr (P:=af) (k:= .i64) (x:=(i:dg)) cD Bj (by omega) (by omega);rw[c4] at fk;obtain⟨q0,q1⟩:=efE We a7;obtain⟨r,vK,fe,kP⟩:=rd.row i a7;have xM:=fe.len;obtain⟨hk6,Wc⟩:=Aa vK;have D4:=We.gp (P:=af) yP a7 (j:=0) (by omega);rw[Nat.add_zero,hk6] at D4;have O4:=We.uD (P:=af) Bi kn a7 (j:=1) (by omega);rw[Wc] at O4;by_cases Xi:d[i].1=k
  ·have aaJ:Small d[i].2:=Su _ (cx a7);simp only[aj,ak,ad,QM,WP,↓ab,hn,h1,h2,h5,BU,l10,We.aQ cD,aC d1,fk,q0,q1,D4,O4,fJ,ao Xi];refine(TJ yf DY _ d[i].2 (cM _) F t _ (fe.keeps F5) aaJ).mono ?_;rintro _ t3 hL3;obtain⟨gY,rfl,wM,mq⟩:=hL3.new;have Na:=wM.len;have Xj:aw s2.next s2 t3:=aF.trans (mq.weaken aF.next);have aiy:=aF.next;simp only[aj,QM,WP,↓ab,hn,h4];refine aG kn (by decide) (dK.keeps Xj) rfl rfl Na wM.ok ?_;intro t4 ly uF oo;simp only[aj];have gZ:=aY.next;refine hQ _ _ _ (.inl ⟨rfl,by simp only[ag,hn],by simp only[aa,↓ab,WP,h4],gY,Na,ly,?_⟩);rw[hg,Kx a7 Xi (fun j hj=>hP j (by omega) hj)];exact hL3.put F5 (by omega) gZ uF oo
  simp(disch:=omega)only[aj,ak,ad,QM,WP,↓ab,hn,h1,h2,h5,BU,l10,We.aQ cD,aC d1,fk,q0,D4,fJ,an Xi,aB];refine ar (d.length-(i+1)) (by omega) ⟨i+1,rfl,by omega,fun j h hj=> ?_,aF,by simp only[ag,hn],by simp only[aa,↓ab,WP,h1],by simp only[aa,↓ab,WP,h2],by simp only[aa,↓ab,WP,h4],by simp only[aa,↓ab];rfl⟩;by_cases gD:j=i
  ·subst gD;exact Xi
  exact hP j h (by omega)
 clear hn h0 h1 f;rintro z f t (⟨rfl,hn,h4,gY,M9,ly,hL4⟩|⟨rfl,hn,h4,GL,aF⟩)
 ·simp only[aj,al,oneOf,QM,↓ab,hn,h4,az.fi ly M9,a4,dP];exact hL4
 rw[GL];have F5:aw s.next s t:=dA.trans (aF.weaken dA.next);have gZ:=aY.next;have mf:=dA.next;have oX:=(aF).next;simp only[aj,ae,QM,WP,↓ab,hn,h4,bO0];refine aG kn (by decide) (dK.keeps aF) rfl rfl rfl rfl ?_;intro q5 py Ae pz;simp only[aj,al,oneOf,QM,WP,↓ab,hn,h4,az.fi py rfl,a4,dP];exact BV.none ((F5).trans ⟨by omega,fun j hj=>pz j (by omega)⟩)
theorem Ux {lib:aD}(hl:lib.at 33=none)(hle:lib.at 57=none)(yf:lib.at 56=none)(DY:lib.at 39=none)(F:cv->Prop)(s:au)(cs:b7 bw)(o:O)(ho:dV F s cs o)(iW:Small o)(k:b7 ea):
  Runs af lib 33 [.agg cs.toArray,.string ⟨k.toArray⟩] s (su s (fP o k)):=(aeO hl hle yf DY F s cs o ho iW k).mono fun _ _ h=>h.new
end Go.Proofs.YtdfjfncifneocaaGreat
namespace Go.Proofs.YtdfjfncifneocaaGreat
open Go.Cl Go.Cl.Pr Go.Cl.Ch
theorem Et:bU af 68=some true:=by kernel_rfl
theorem IX (i o c:cv):ay af 68 (.pointer (some ⟨i,o,some c⟩)) 0=some (.pointer (some ⟨i,o+0,some c⟩)):=by
 unfold ay;rw[ck];simp[Hq]
theorem Uy (i o c:cv):ay af 68 (.pointer (some ⟨i,o,some c⟩)) 1=some (.pointer (some ⟨i,o+3,some c⟩)):=by
 unfold ay;rw[ck];simp[xk]
theorem aeP (i o c:cv):ay af 68 (.pointer (some ⟨i,o,some c⟩)) 2=some (.pointer (some ⟨i,o+4,some c⟩)):=by
 unfold ay;rw[ck];simp[aV]
theorem An (F:cv->Prop)(s:au)(cs:b7 bw)(o:O)(ho:dV F s cs o)(iW:Small o)(k:b7 ea):Runs af dR 33 [.agg cs.toArray,.string ⟨k.toArray⟩] s (su s (fP o k)):=Ux rfl rfl rfl rfl F s cs o ho iW k
theorem pE (F:cv->Prop)(s:au)(cs:b7 bw)(o:O)(ho:dV F s cs o)(iW:Small o)(k:b7 ea)(d:dg):
  Runs af dR 64 [.agg cs.toArray,.string ⟨k.toArray⟩,.int .i64 d] s fun v s' =>v= .tuple #[.int .i64 (ej o k d).1,.bool (ej o k d).2]/\aw s.next s s' :=by
 have iz:=ho.len;refine Runs.enter 21 Tryz.func64 rfl rfl rfl rfl ?_;intro f hn hf;have h0:f.get 0= .agg cs.toArray:=hf 0;have h1:f.get 1= .string ⟨k.toArray⟩:=hf 1;have h2:f.get 2= .int .i64 d:=hf 2;clear hf;have qB:fC.length+1=6:=rfl;simp only[aj,QM,↓ab,hn,h0];refine aA ?_;intro s1 eJ aY gG;simp only[aj,ak,ad,QM,WP,bb,↓ab,hn,h1,iz,az.fi eJ iz];refine(An F s1 cs o (ho.keeps aY) iW k).mono ?_;rintro _ s2 ⟨c2,rfl,iV,k2⟩;have n1:=aY.next;have n2:=k2.next;simp only[aj,QM,↓ab,hn,zO,Ac];refine aA ?_;intro s3 jE bA Ga;simp only[aj,QM,WP,↓ab,hn,qB];refine aG kn (by decide) jE rfl rfl iV.len iV.ok ?_;intro s4 ly tw qi;have ly:az s4 s2.next c2:=ly;have eP:aw s.next s s4:=((aY.trans (k2.weaken n1)).trans (bA.weaken (by omega))).trans ⟨by omega,fun j hj=>qi j (by omega)⟩;obtain⟨q0,q1⟩:=dV.rL iV;have l0:aN af s4 3 (.pointer (some ⟨s2.next,0,some 6⟩))=some (.int .i64 (fP o k).kind):=by
  have:=ly.load (P:=af) aP (off:=0) (c:=6) (by rw[iV.len]) (by rw[iV.len];omega);rw[this,q0]
 by_cases c0:(fP o k).kind=0
 ·simp only[aj,al,oneOf,QM,WP,↓ab,hn,h2,oi,l0,c0,eu];exact⟨by unfold ej;rw[bk c0],eP⟩
 have l1:aN af s4 2 (.pointer (some ⟨s2.next,1,some 6⟩))=some (.int .i64 (fP o k).num):=by
  have:=ly.load (P:=af) Kr (off:=1) (c:=6) (by rw[iV.len]) (by rw[iV.len];omega);rw[this,q1]
 simp only[aj,al,oneOf,QM,WP,↓ab,hn,oi,Wa,l0,l1,an c0,eu];exact⟨by unfold ej;rw[a8 c0],eP⟩
def Ze (s:au)(r:Lk×dt)(v:bw)(s' :au):Prop:=(∃l,v= .tuple #[eN l,.bool r.2]/\(r.2=true->l=r.1))/\aw s.next s s'
theorem Rd:∀(W:b7 dt) (i:cv) (h:i<W.length),(W.map cz).getD i undef= .bool W[i]:=fun W i h=>by
 rw[List.getD_eq_getElem?_getD,List.getElem?_map,List.getElem?_eq_getElem h];rfl
theorem Re (F G:cv->Prop)(s:au)(cn cs:b7 bw)(n o:O)(hN:dV F s cn n)(hO:dV G s cs o)(iW:Small o):
  Runs af dR 34 [.agg cn.toArray,.agg cs.toArray] s (Ze s (kK n o)):=by
 have XA:=hN.len;have iz:=hO.len;obtain⟨QQ,eK⟩:∃QQ:bw->au->Prop,QQ=Ze s (kK n o):=⟨_,rfl⟩
 rw[<-eK];refine Runs.enter 111 Tryz.func34 rfl rfl rfl rfl ?_;intro f hn hf;have h0:f.get 0= .agg cn.toArray:=hf 0;have h1:f.get 1= .agg cs.toArray:=hf 1;clear hf;have qB:(⟨0,0,0,[],0⟩:Lk).cells.length+1=6:=rfl;have IU:b6 af 68=some (eN ⟨0,0,0,[],0⟩):=by kernel_rfl
 have vS:cr (eN ⟨0,0,0,[],0⟩)=true:=by kernel_rfl
 have bz:da af 68 []=some (eN ⟨0,0,0,[],0⟩):=by kernel_rfl
 simp only[aj,QM,↓ab,hn,h0];refine aA ?_;intro s1 eJ aY gG;simp only[aj,QM,WP,bb,↓ab,hn,h1,XA];refine aA ?_;intro s2 dK aR jD;simp only[aj,QM,bb,↓ab,hn,iz,IU,vS];refine aA ?_;intro s3 jE bA Ga;have jE:az s3 s2.next (⟨0,0,0,[],0⟩:Lk).cells:=jE;have n1:=aY.next;have n2:=aR.next;have n3:=bA.next;have iT:aw s.next s s3:=(aY.trans (aR.weaken n1)).trans (bA.weaken (by omega));have eJ:=eJ.keeps (aR.trans (bA.weaken n2));have dK:=dK.keeps bA;obtain⟨a0,-⟩:=dV.rL hN;obtain⟨b0,-⟩:=dV.rL hO;obtain⟨bv,tu,nj⟩:∃bv,cn.getD 2 undef=bv/\aU s 1 bv n.bytes.length (ofBytes n.bytes):=by
  cases n with
  |mk k m b l d=>obtain⟨bv,lv,dv,lc,dc,rfl,h1,-⟩:=hN.parts;exact⟨bv,rfl,h1⟩
 have l3:aN af s3 22 (.pointer (some ⟨s.next,2,some 6⟩))=some bv:=by
  have:=eJ.load (P:=af) gJ (off:=2) (c:=6) (by omega) (by omega);rw[this,tu]
 have Ul:=(nj.keeps iT).str (P:=af) cL dk ds;have bs:da af 66 [(0,.int .i64 1),(1,.int .i64 1),(2,.int .i64 1)]=some (i3 1 1 1):=by kernel_rfl
 have bl:da af 68 [(1,.string ⟨n.bytes.toArray⟩),(2,.int .i64 1),(0,i3 1 1 1)]=some (eN ⟨1,1,1,n.bytes,1⟩):=by kernel_rfl
 simp only[aj,ae,QM,WP,↓ab,hn,qB,M3,l3,Ul,bs,bl,IU,vS];refine aA ?_;intro s4 ly eP uF;have ly:az s4 s3.next (⟨0,0,0,[],0⟩:Lk).cells:=ly;simp only[aj,QM,WP,↓ab,hn,qB];refine aG kr (by decide) ly rfl rfl rfl rfl ?_;intro s5 py Sw oE;have py:az s5 s3.next (⟨1,1,1,n.bytes,1⟩:Lk).cells:=py;have n4:=eP.next;have Zf:aw s3.next s3 s5:=eP.trans ⟨by omega,fun j hj=>oE j (by omega)⟩;have n5:=Zf.next;have oE:aw s.next s s5:=iT.trans (Zf.weaken (by omega));have eJ:=eJ.keeps Zf;have ai8:=dK;have dK:=dK.keeps Zf;have ai9:=jE;have jE:=jE.keeps Zf;have l1:aN af s5 3 (.pointer (some ⟨s.next,0,some 6⟩))=some (.int .i64 n.kind):=by
  have:=eJ.load (P:=af) aP (off:=0) (c:=6) (by omega) (by omega);rw[this,a0]
 have l2:aN af s5 3 (.pointer (some ⟨s1.next,0,some 6⟩))=some (.int .i64 o.kind):=by
  have:=dK.load (P:=af) aP (off:=0) (c:=6) (by omega) (by omega);rw[this,b0]
 have bad:∀(f:aZ) (t:au),az t s2.next (⟨0,0,0,[],0⟩:Lk).cells->aw s.next s t->(kK n o).2=false->f.n=111->f.get 4= .pointer (some ⟨s2.next,0,some 6⟩)->f.get 5= .bool false->L9 af Tryz.f34.results.toList QQ .ret f t:=by
  intro f t ht aF hf hn h4 h5;have la:aN af t 68 (.pointer (some ⟨s2.next,0,some 6⟩))=some (eN ⟨0,0,0,[],0⟩):=az.bd (P:=af) (cs:=(⟨0,0,0,[],0⟩:Lk).cells) Et kr ht (c:=6) rfl;simp only[aj,al,oneOf,QM,↓ab,hn,h4,h5,a4,la,ev];rw[eK];exact⟨⟨_,by rw[hf],fun h=>by rw[hf] at h;cases h⟩,aF⟩
 by_cases c1:n.kind≠5\/o.kind≠0/\o.kind≠7
 ·have e:(kK n o).2=false:=by unfold kK;rw[bk c1]
  by_cases c5:n.kind=5
  ·obtain⟨c2,c3⟩:o.kind≠0/\o.kind≠7:=c1.elim (fun h=>cJ c5 h) id;simp only[aj,ak,ae,QM,WP,↓ab,undef,hn,oi,l1,l2,bz,b4,c5,an c2,an c3];refine aG kr (by decide) jE rfl rfl rfl rfl ?_;intro s6 Wh Ku hs6;simp only[aj,QM,↓ab,hn];exact bad _ _ Wh (oE.trans ⟨by omega,fun j hj=>hs6 j (by omega)⟩) e (by simp only[ag,hn]) (by simp only[aa,↓ab,WP]) (by simp only[aa,↓ab])
  simp only[aj,ak,ae,QM,WP,↓ab,undef,hn,oi,l1,bz,b4,an c5];refine aG kr (by decide) jE rfl rfl rfl rfl ?_;intro s6 Wh Ku hs6;simp only[aj,QM,↓ab,hn];exact bad _ _ Wh (oE.trans ⟨by omega,fun j hj=>hs6 j (by omega)⟩) e (by simp only[ag,hn]) (by simp only[aa,↓ab,WP]) (by simp only[aa,↓ab])
 have c5:n.kind=5:=cc fun h=>c1 (.inl h)
 have c7:o.kind=0\/o.kind=7:=cc fun h=>c1 (.inr ⟨fun e=>h (.inl e),fun e=>h (.inr e)⟩)
 have e:kK n o=(th n o,y5 n o):=by unfold kK;rw[a8 c1]
 simp only[aj,ak,QM,WP,↓ab,undef,hn,oi,l1,c5];generalize hK:oD af dR (Code.seq (Code.region 4 _ _) _) _=K;have go:∀f:aZ,f.n=111->f.get 3= .pointer (some ⟨s1.next,0,some 6⟩)->f.get 4= .pointer (some ⟨s2.next,0,some 6⟩)->f.get 6= .pointer (some ⟨s3.next,0,some 6⟩)->K .normal f s5:=by
  clear hn h0 h1 f l1 l2 l3 eJ;intro f hn h3 h4 h6;subst hK;have UB:=Tryz.underlying100;have zB:b6 af 4=some (.bool false):=by kernel_rfl
  have YN:∀t:au,dq af t 100 (.int .i64 5) (.int .i64 5)=a6 t ([false,false,false,false,false].map cz) 5 1:=fun t=>Es (n:=5) (b8:=1) UB qE zB (by kernel_rfl) rfl rfl (by decide) (by decide)
  simp only[aj,YN];refine bc (by rfl) ?_;intro v s6 hv xp cU;have ix:∀j:cv,j<5->bK af 100 v (.int .i64 (j:cv))=some (aX 1 v j):=fun j hj=>hv.aL.indexAddr (P:=af) (k:= .i64) (x:=(j:dg)) UB qE (by omega) (by omega)
  have ix0:bK af 100 v (.int .i64 0)=some (aX 1 v 0):=ix 0 (by decide);have ix1:bK af 100 v (.int .i64 1)=some (aX 1 v 1):=ix 1 (by decide);have ix2:bK af 100 v (.int .i64 2)=some (aX 1 v 2):=ix 2 (by decide);have ix3:bK af 100 v (.int .i64 3)=some (aX 1 v 3):=ix 3 (by decide);have ix4:bK af 100 v (.int .i64 4)=some (aX 1 v 4):=ix 4 (by decide);have xp:aM s5.next v:=xp;have IY:aM s3.next v:=fun j hj=>by have:=xp j hj;omega
  have FD:aI v≠some s3.next:=fun e=>by have:=xp _ e;omega
  have Sx:=py.keeps cU;have k6:aw s3.next s3 s6:=Zf.trans (cU.weaken n5);have m6:=k6.next;obtain⟨w1,Fs⟩:∃w,w=ej o Hv 1:=⟨_,rfl⟩
  obtain⟨w2,JB⟩:∃w,w=ej o vE 1:=⟨_,rfl⟩
  obtain⟨w3,Q8⟩:∃w,w=ej o rJ 1:=⟨_,rfl⟩
  obtain⟨w4,Pg⟩:∃w,w=ej o Al 1:=⟨_,rfl⟩
  obtain⟨w5,hw5⟩:∃w,w=ej o Hu 8:=⟨_,rfl⟩
  have x0:∀w:dg×dt,aH (.tuple #[.int .i64 w.1,.bool w.2]) 0=some (.int .i64 w.1):=fun _=>rfl
  have x1:∀w:dg×dt,aH (.tuple #[.int .i64 w.1,.bool w.2]) 1=some (.bool w.2):=fun _=>rfl
  have ld:∀t,aw s3.next s3 t->aN af t 26 (.pointer (some ⟨s1.next,0,some 6⟩))=some (.agg cs.toArray):=fun t h=>az.fi (ai8.keeps h) iz
  simp only[aj,ak,ad,QM,WP,↓ab,hn,h3,ld _ k6];refine(pE G s6 cs o (hO.keeps (iT.trans (k6.weaken (by omega)))) iW Hv 1).mono ?_;rw[<-Fs];rintro _ s7 ⟨rfl,q7⟩;have p7:=q7.next;simp only[aj,QM,WP,↓ab,hn,h6,x0 w1,x1 w1,IX,Ed];refine ba aV (Sx.keeps q7) rfl (by simp[Lk.cells]) rfl ?_;intro s8 Gd p8 q8;have Gd:az s8 s3.next (⟨w1.1,1,1,n.bytes,1⟩:Lk).cells:=Gd;simp only[aj,QM,WP,↓ab,hn,ix0];refine cI qE ((hv.keeps q7).aK p8 q8 FD) (by decide) rfl ?_;intro s9 hv9 hT9;have hv9:Own s9 1 v 5 ([w1.2,false,false,false,false].map cz):=hv9;have hl9:=Gd.turns hT9 FD;have k9:aw s3.next s3 s9:=((k6.trans (q7.weaken m6)).trans ⟨by omega,fun j hj=>q8 j (by omega)⟩).trans (hT9.keeps IY (by omega));have m9:=k9.next;simp only[aj,ak,ad,QM,WP,↓ab,hn,h3,ld _ k9];refine(pE G s9 cs o (hO.keeps (iT.trans (k9.weaken (by omega)))) iW vE 1).mono ?_;rw[<-JB];rintro _ XB ⟨rfl,q10⟩;have p10:=q10.next;simp only[aj,QM,WP,↓ab,hn,h6,x0 w2,x1 w2,IX,F6];refine ba aV (hl9.keeps q10) rfl (by simp[Lk.cells]) rfl ?_;intro Wi IV p11 q11;have IV:az Wi s3.next (⟨w1.1,w2.1,1,n.bytes,1⟩:Lk).cells:=IV;simp only[aj,QM,WP,↓ab,hn,ix1];refine cI qE ((hv9.keeps q10).aK p11 q11 FD) (by decide) rfl ?_;intro zz abb aeS;have abb:Own zz 1 v 5 ([w1.2,w2.2,false,false,false].map cz):=abb;have Q9:=IV.turns aeS FD;have XC:aw s3.next s3 zz:=((k9.trans (q10.weaken m9)).trans ⟨by omega,fun j hj=>q11 j (by omega)⟩).trans (aeS.keeps IY (by omega));have m12:=XC.next;simp only[aj,ak,ad,QM,WP,↓ab,hn,h3,ld _ XC];refine(pE G zz cs o (hO.keeps (iT.trans (XC.weaken (by omega)))) iW rJ 1).mono ?_;rw[<-Q8];rintro _ Za ⟨rfl,q13⟩;have p13:=q13.next;simp only[aj,QM,WP,↓ab,hn,h6,x0 w3,x1 w3,IX,Nk];refine ba aV (Q9.keeps q13) rfl (by simp[Lk.cells]) rfl ?_;intro s14 IW p14 q14;have IW:az s14 s3.next (⟨w1.1,w2.1,w3.1,n.bytes,1⟩:Lk).cells:=IW;simp only[aj,QM,WP,↓ab,hn,ix2];refine cI qE ((abb.keeps q13).aK p14 q14 FD) (by decide) rfl ?_;intro s15 abc aeT;have abc:Own s15 1 v 5 ([w1.2,w2.2,w3.2,false,false].map cz):=abc;have rM:=IW.turns aeT FD;have k15:aw s3.next s3 s15:=((XC.trans (q13.weaken m12)).trans ⟨by omega,fun j hj=>q14 j (by omega)⟩).trans (aeT.keeps IY (by omega));have m15:=k15.next;simp only[aj,ak,ad,QM,WP,↓ab,hn,h3,ld _ k15];refine(pE G s15 cs o (hO.keeps (iT.trans (k15.weaken (by omega)))) iW Al 1).mono ?_;rw[<-Pg];rintro _ s16 ⟨rfl,q16⟩;have p16:=q16.next;simp only[aj,QM,WP,↓ab,hn,h6,x0 w4,x1 w4,aeP];refine ba aV (rM.keeps q16) rfl (by simp[Lk.cells]) rfl ?_;intro s17 abd p17 q17;have abd:az s17 s3.next (⟨w1.1,w2.1,w3.1,n.bytes,w4.1⟩:Lk).cells:=abd;simp only[aj,QM,WP,↓ab,hn,ix3];refine cI qE ((abc.keeps q16).aK p17 q17 FD) (by decide) rfl ?_;intro s18 abe aeU;have abe:Own s18 1 v 5 ([w1.2,w2.2,w3.2,w4.2,false].map cz):=abe;have ajd:=abd.turns aeU FD;have k18:aw s3.next s3 s18:=((k15.trans (q16.weaken m15)).trans ⟨by omega,fun j hj=>q17 j (by omega)⟩).trans (aeU.keeps IY (by omega));have m18:=k18.next;simp only[aj,ak,ad,QM,WP,↓ab,hn,h3,ld _ k18];refine(pE G s18 cs o (hO.keeps (iT.trans (k18.weaken (by omega)))) iW Hu 8).mono ?_;rw[<-hw5];rintro _ s19 ⟨rfl,q19⟩;have p19:=q19.next;simp only[aj,QM,WP,↓ab,hn,x0 w5,x1 w5,ix4];refine cI qE (abe.keeps q19) (by decide) rfl ?_;intro t hvt hTt;obtain⟨W,hW⟩:∃W,W=[w1.2,w2.2,w3.2,w4.2,w5.2]:=⟨_,rfl⟩
  have hWl:W.length=5:=by rw[hW];rfl
  have hvt:Own t 1 v W.length (W.map cz):=by rw[hW];exact hvt
  obtain⟨l,hl⟩:∃l:Lk,l=⟨w1.1,w2.1,w3.1,n.bytes,w4.1⟩:=⟨_,rfl⟩
  have a7:=(ajd.keeps q19).turns hTt FD;rw[<-hl] at a7;have kt:aw s3.next s3 t:=(k18.trans (q19.weaken m18)).trans (hTt.keeps IY (by omega));have Wj:th n o=l:=by unfold th;rw[<-Fs,<-JB,<-Q8,<-Pg,hl]
  have hU:y5 n o=(((((w1.2&&w2.2)&&w3.2)&&w4.2)&&decide (pC l.p l.co l.cl))&&decide (l.early=1)&&(decide (l.p=1)||w5.2&&decide (w5.1=8))):=by
   unfold y5;rw[Wj,<-hw5];unfold Uj;rw[<-Fs,<-JB,<-Q8,<-Pg]
  have BX:∀(j:cv) (h:j<W.length),W[j]=false->¬(j=4/\l.p=1)->(kK n o).2=false:=by
   intro j h hj hp;rw[e];show y5 n o=false;rw[hU];have:j=0\/j=1\/j=2\/j=3\/j=4:=by omega
   rcases this with rfl|rfl|rfl|rfl|rfl<;>simp[hW] at hj<;>simp[hj]
   intros;exact fun h=>hp ⟨rfl,h⟩
  have Rf:(∀(j:cv) (h:j<W.length),j<5->W[j]=true\/(j=4/\l.p=1))->y5 n o=(decide (pC l.p l.co l.cl)&&decide (l.early=1)&&(decide (w5.1=8)||decide (l.p=1))):=by
   intro h;have g:∀(j:cv) (hj:j<4),W[j]'(by omega)=true:=fun j hj=>(h j (by omega) (by omega)).elim id fun e=>cJ e.1 (by omega)
   have g0:=g 0 (by decide);have g1:=g 1 (by decide);have g2:=g 2 (by decide);have g3:=g 3 (by decide);have g4:=h 4 (by omega) (by decide);simp only[hW,List.getElem_cons_zero,List.getElem_cons_succ,ee] at g0 g1 g2 g3 g4;rw[hU,g0,g1,g2,g3];by_cases hp:l.p=1
   ·simp[hp]
   have g5:=g4.resolve_right hp;simp[hp,g5]
  have kz:=iT.trans (kt.weaken (by omega));have htz:=ai9.keeps kt;have lp:aN af t 3 (.pointer (some ⟨s3.next,0,some 6⟩))=some (.int .i64 l.p):=a7.load aP (off:=0) (c:=6) rfl (by simp[Lk.cells]);simp only[aj,QM,↓ab,hn];refine Comes.de (fun z f u=>∃i:cv,z=5-i/\i<=5/\(∀(j:cv) (h:j<W.length),j<i->W[j]=true\/(j=4/\l.p=1))/\u=t/\f.n=111/\f.get 4= .pointer (some ⟨s2.next,0,some 6⟩)/\f.get 6= .pointer (some ⟨s3.next,0,some 6⟩)/\f.get 7=v/\f.get 8= .int .i64 w5.1/\f.get 9= .int .i64 (i:cv))
   ⟨0,rfl,by omega,fun j h hj=>by omega,rfl,by simp only[aa,ag,↓ab,WP,hn,h4,h6,ee];rfl⟩ ?_
  clear hn h3 h4 h6 f;rintro z f u ⟨i,rfl,hi,hg,rfl,hn,h4,h6,h7,h8,h9⟩;by_cases hi5:i<5
  ·have d5:((i:cv):dg)<5:=by omega
   have hiW:i<W.length:=by omega
   have ixi:=ix i hi5;have eF:=hvt.aL.cu (P:=af) NB hiW;rw[Rd W i hiW] at eF;have step:∀f:aZ,W[i]=true\/(i=4/\l.p=1)->∀(j:cv) (h:j<W.length),j<i+1->W[j]=true\/(j=4/\l.p=1):=fun _ hc j h hj=>by
    by_cases e:j=i
    ·subst e;exact hc
    exact hg j h (by omega)
   cases hb:W[i] with
   |true=>
    rw[hb] at eF;simp(disch:=omega)only[aj,ak,QM,WP,↓ab,undef,hn,h7,h9,aC d5,ixi,eF,aB];exact ar (5-(i+1)) (by omega) ⟨i+1,rfl,by omega,step f (.inl hb),rfl,by simp only[ag,hn],by simp only[aa,↓ab,WP,h4],by simp only[aa,↓ab,WP,h6],by simp only[aa,↓ab,WP,h7],by simp only[aa,↓ab,WP,h8],by simp only[aa,↓ab];rfl⟩
   |false=>
    rw[hb] at eF;by_cases i4:((i:cv):dg)<4
    ·simp only[aj,ak,ae,QM,WP,↓ab,undef,hn,h4,h7,h9,aC d5,ixi,eF,i4,bz];refine aG kr (by decide) htz rfl rfl rfl rfl ?_;intro t2 dK mf dA;simp only[aj,QM,↓ab,hn];exact bad _ _ dK (kz.trans ⟨by omega,fun j hj=>dA j (by omega)⟩) (BX i hiW hb (fun h=>by omega)) (by simp only[ag,hn]) (by simp only[aa,↓ab,WP,h4]) (by simp only[aa,↓ab])
    by_cases p1:l.p=1
    ·simp(disch:=omega)only[aj,ak,QM,WP,↓ab,hn,h6,h7,h9,aC d5,ixi,eF,i4,IX,Ed,lp,b4,ao p1,aB];exact ar (5-(i+1)) (by omega) ⟨i+1,rfl,by omega,step f (.inr ⟨by omega,p1⟩),rfl,by simp only[ag,hn],by simp only[aa,↓ab,WP,h4],by simp only[aa,↓ab,WP,h6],by simp only[aa,↓ab,WP,h7],by simp only[aa,↓ab,WP,h8],by simp only[aa,↓ab];rfl⟩
    simp only[aj,ak,ae,QM,WP,↓ab,hn,h4,h6,h7,h9,aC d5,ixi,eF,i4,IX,Ed,lp,b4,an p1,bz];refine aG kr (by decide) htz rfl rfl rfl rfl ?_;intro t2 dK mf dA;simp only[aj,QM,↓ab,hn];exact bad _ _ dK (kz.trans ⟨by omega,fun j hj=>dA j (by omega)⟩) (BX i hiW hb (fun h=>p1 h.2)) (by simp only[ag,hn]) (by simp only[aa,↓ab,WP,h4]) (by simp only[aa,↓ab])
  obtain rfl:i=5:=by omega
  have d5:¬((5:cv):dg)<5:=by omega
  have hy:=Rf fun j h hj=>hg j h hj
  simp only[aj,QM,↓ab,hn,h9,av d5];obtain⟨A,hA⟩:∃A:cv->dt,A=fun j=>decide (j<u.next/\j≠s2.next):=⟨_,rfl⟩
  have gu:∀j,A j=true->j<u.next:=by
   intro j h;rw[hA] at h;exact(bt h).1
  refine LB.cN.dx A gu 2 0 (by kernel_rfl) (by kernel_rfl) ?_;have dI:=aw.spare u 0;have nsp:(spare u 0).next=u.next:=bu _ _;have Uz:=a7.keeps dI;have kz5:aw s.next s (spare u 0):=kz.trans (dI.weaken kz.next);have Wk:∀k,LA.di A (some (.pointer (some ⟨s3.next,k,some 6⟩)))=true:=fun k=>LA.bN (A:=A) (i:=s3.next) (by rw[hA];exact ao ⟨a7.lt,by omega⟩)
  have fV:bI (eN l) (eN l)=true:=by simp[bI,fc,cw,Lk.cells]
  have pl:aN af (spare u 0) 68 (.pointer (some ⟨s3.next,0,some 6⟩))=some (eN l):=az.bd (P:=af) (cs:=l.cells) Et kr Uz (c:=6) rfl;have ps:aN af (spare u 0) 66 (.pointer (some ⟨s3.next,0,some 6⟩))=some (i3 l.p l.co l.cl):=by
   have:=az.qc (P:=af) O8 Hq Uz (off:=0) (c:=6) rfl (by simp[Lk.cells]);rw[this];rfl
  simp only[aj,ak,bg,bn,ch,ad,QM,WP,↓ab,hn,h6,Wk,pl,fV,IX,ps,Cp];obtain⟨D,hD⟩:∃D,D=decide (pC l.p l.co l.cl):=⟨_,rfl⟩
  rw[<-hD] at hy;refine(Hr (lib:=dR) rfl (spare u 0) l.p l.co l.cl).mono ?_;unfold Ag;rw[<-hD];rintro _ Za ⟨rfl,XF⟩;refine⟨fun _=>LA.aw.qI gu (XF.weaken (by omega)),?_⟩;have IW:=Uz.keeps XF;have NC:=(htz.keeps dI).keeps XF;have kz6:aw s.next s Za:=kz5.trans (XF.weaken kz5.next);have nz:=kz5.next;have pe:aN af Za 3 (.pointer (some ⟨s3.next,4,some 6⟩))=some (.int .i64 l.early):=IW.load aP (off:=4) (c:=6) rfl (by simp[Lk.cells]);have pp:aN af Za 3 (.pointer (some ⟨s3.next,0,some 6⟩))=some (.int .i64 l.p):=IW.load aP (off:=0) (c:=6) rfl (by simp[Lk.cells]);cases D<;>by_cases d2:l.early=1<;>by_cases d8:w5.1=8<;>by_cases d3:l.p=1<;>(
   simp only[aj,ak,bg,bn,QM,WP,↓ab,undef,hn,h4,h6,h8,Wk,IX,aeP,Ed,pe,pp,d2,d8,d3];refine LB.bS kr (by decide) NC rfl rfl rfl rfl (fun _=>by rw[hA];exact an (fun h=>h.2 rfl)) ?_;intro q hq1 Cg hq3;have lo:=az.bd (P:=af) (cs:=l.cells) Et kr hq1 (c:=6) rfl;simp only[aj,al,oneOf,QM,WP,↓ab,aj,bg,bn,cg,oneOf,QM,WP,↓ab,hn,h4,a4,lo,ev];rw[eK,e];exact⟨⟨l,by rw[hy];simp[d2,d8,d3],fun _=>Wj.symm⟩,kz6.trans ⟨by omega,fun j hj=>hq3 j (by omega)⟩⟩)
 rcases c7 with c7|c7
 ·simp only[aj,ak,QM,WP,↓ab,undef,hn,l2,c7];exact go _ (by simp only[ag,hn]) (by simp only[aa,↓ab,WP]) (by simp only[aa,↓ab,WP]) (by simp only[aa,↓ab,WP])
 have d70:decide ((7:dg)=0)=false:=rfl;simp only[aj,ak,QM,WP,↓ab,hn,oi,l2,b4,c7,d70];exact go _ (by simp only[ag,hn]) (by simp only[aa,↓ab,WP]) (by simp only[aa,↓ab,WP]) (by simp only[aa,↓ab,WP])
theorem xu (F:cv->Prop)(s:au)(cs:b7 bw)(o:O)(ho:dV F s cs o)(iW:Small o):
  Runs af dR 13 [.agg cs.toArray] s (Pj s (df o)):=by
 have iz:=ho.len;obtain⟨QQ,eK⟩:∃QQ:bw->au->Prop,QQ=Pj s (df o):=⟨_,rfl⟩
 rw[<-eK];refine Runs.enter 84 Tryz.func13 rfl rfl rfl rfl ?_;intro f hn hf;have h0:f.get 0= .agg cs.toArray:=hf 0;clear hf;have qB:fC.length+1=6:=rfl;have UO:=cT;have UK:=Tryz.underlying35;simp only[aj,QM,↓ab,hn,h0];refine aA ?_;intro s1 eJ aY gG;have n1:=aY.next;obtain⟨q0,-⟩:=dV.rL ho;have l0:aN af s1 3 (.pointer (some ⟨s.next,0,some 6⟩))=some (.int .i64 o.kind):=by
  have:=eJ.load (P:=af) aP (off:=0) (c:=6) (by omega) (by omega);rw[this,q0]
 by_cases c8:o.kind=8;rotate_left
 ·simp only[aj,ak,al,oneOf,QM,WP,bb,↓ab,hn,iz,oi,l0,b4,an c8,dT];have e:df o=([],1):=by unfold df;rw[bk c8]
  rw[eK,e];exact⟨_,rfl,.nil,aM.nil _,aY⟩
 simp only[aj,ak,QM,WP,bb,↓ab,hn,iz,oi,l0,b4,ao c8];obtain⟨A,hA⟩:∃A:cv->dt,A=fun j=>decide (j<s1.next):=⟨_,rfl⟩
 have gu:∀j,A j=true->j<s1.next:=by
  intro j h;rw[hA] at h;exact bt h
 have hAn:∀j,s1.next<=j->A j=false:=fun j h=>by rw[hA];exact an (by omega)
 have BR:A s.next=true:=by rw[hA];exact ao eJ.lt
 refine LB.cN.dx A gu 3 2 (by kernel_rfl) (by kernel_rfl) ?_;have dI:=aw.spare s1 2;have QN:(spare s1 2).next=s1.next+2:=bu _ _;have lo1:∀k,LA.di A (some (.pointer (some ⟨s.next,k,some 6⟩)))=true:=fun k=>LA.bN (A:=A) (i:=s.next) BR
 have p1:∀t,aw (spare s1 2).next (spare s1 2) t->aN af t 26 (.pointer (some ⟨s.next,0,some 6⟩))=some (.agg cs.toArray):=fun t h=>az.fi ((eJ.keeps dI).keeps h) iz
 have fL:aw s.next s (spare s1 2):=aY.trans (dI.weaken n1);simp only[aj,ak,bg,bn,ch,ad,QM,WP,↓ab,hn,lo1,p1 _ (aw.refl _ _),ho.self];refine(An F (spare s1 2) cs o (ho.keeps fL) iW fh).mono ?_;rintro _ a ⟨ca,rfl,oa,ka⟩;have ma:=ka.next;refine⟨fun _=>LA.aw.qI gu (ka.weaken (by omega)),?_⟩;simp only[aj,ak,bg,bn,ch,ad,QM,WP,↓ab,hn,lo1,p1 _ ka,ho.self];refine(An F a cs o (ho.keeps (fL.trans (ka.weaken (by omega)))) iW lV).mono ?_;rintro _ b ⟨cb,rfl,ob,kb⟩;have mb:=kb.next;refine⟨fun _=>LA.aw.qI gu (kb.weaken (by omega)),?_⟩;simp only[aj,↓ab,zO,Ac];refine LB.gU (by omega) ?_;intro c iy j6 qO;simp only[aj,bn,QM,↓ab,hn,zO,Ac,qB];refine LB.gU (by omega) ?_;intro d yp wi NF;simp only[aj,bn,QM,WP,↓ab,hn,qB];refine LB.bS kn (by decide) (iy.aK wi NF (by omega)) rfl rfl (by simpa using oa.len) oa.ok (fun _=>hAn _ (by omega)) ?_;intro e Zc Mb Up;simp only[aj,bn,cg,QM,WP,↓ab,hn];refine LB.bS kn (by decide) (yp.aK Mb Up (by omega)) rfl rfl (by simpa using ob.len) ob.ok (fun _=>hAn _ (by omega)) ?_;intro g Ph Bg Uq;have Wl:az g s1.next ca:=Zc.aK Bg Uq (by omega);have Ph:az g (s1.next+1) cb:=Ph;have kg:∀j,j≠s1.next->j≠s1.next+1->g.heap.get j=b.heap.get j:=fun j e1 e2=>by rw[Uq j e2,Up j e1,NF j e2,qO j e1]
 have ng:g.next=b.next:=by omega
 have Rb:dV (fun j=>s.next<=j) g ca (fP o fh):=(((((oa.keeps kb).aK j6 qO (by omega)).aK wi NF (by omega)).aK Mb Up (by omega)).aK Bg Uq (by omega)).mono (fun j hj=>by omega);have Rc:dV (fun j=>s.next<=j) g cb (fP o lV):=((((ob.aK j6 qO (by omega)).aK wi NF (by omega)).aK Mb Up (by omega)).aK Bg Uq (by omega)).mono (fun j hj=>by omega);have oZ:aw s.next s g:=((fL.trans (ka.weaken (by omega))).trans (kb.weaken (by omega))).trans ⟨by omega,fun j hj=>kg j (by omega) (by omega)⟩;have hsF:=mu o fh iW;have hsP:=mu o lV iW;clear oa ob ka kb ma mb iy j6 qO yp wi NF Zc Mb Up Bg Uq kg;obtain⟨fo,L2⟩:∃q,q=fP o fh:=⟨_,rfl⟩
 obtain⟨po,Wz⟩:∃q,q=fP o lV:=⟨_,rfl⟩
 have xP:gi o=if fo.kind=0 then([],[],true) else if fo.kind=5 then([fo],[po],true) else if fo.kind=6 then(if po.kind=0 then(fo.items,cA fo.items.length O.none,true) else(fo.items,po.items,decide (po.kind=6)&&decide (po.items.length=fo.items.length))) else([],[],false):=by unfold gi;rw[<-L2,<-Wz]
 rw[<-L2] at Rb hsF;rw[<-Wz] at Rc hsP;have la:=Rb.len;have lb:=Rc.len;obtain⟨q0,-⟩:=dV.rL Rb;obtain⟨r0,-⟩:=dV.rL Rc;have f0:aN af g 3 (.pointer (some ⟨s1.next,0,some 6⟩))=some (.int .i64 fo.kind):=by
  have:=Wl.load (P:=af) aP (off:=0) (c:=6) (by omega) (by omega);rw[this,q0]
 have f1:aN af g 3 (.pointer (some ⟨s1.next+1,0,some 6⟩))=some (.int .i64 po.kind):=by
  have:=Ph.load (P:=af) aP (off:=0) (c:=6) (by omega) (by omega);rw[this,r0]
 have hO2:df o=if(gi o).2.2=false\/8<(gi o).1.length then(([],4):b7 Lk×dg) else match fR (gi o).1 (gi o).2.1 with
  |none=>([],4)
  |some L=>(L,0):=by unfold df;rw[a8 (fun h=>h c8)]<;>rfl
 have Gf:=y7 iW;have fin:∀(f:aZ) (t:au) (x:dg),df o=([],x)->aw s.next s t->f.n=84->f.get 2= .slice none 0 0->f.get 3= .int .i64 x->L9 af Tryz.f13.results.toList QQ .ret f t:=by
  intro f t x e aF hn h2 h3;simp only[aj,al,oneOf,QM,↓ab,hn,h2,h3,dT];rw[eK,e];exact⟨_,rfl,.nil,aM.nil _,aF⟩
 simp only[aj,bn,ax,QM,WP,↓ab,hn];generalize hK:oD af dR (Code.seq (Code.seq (Code.region 21 _ _) _) _) _=K;have go:∀(N M:b7 O) (y z:bw) (LC MC:b7 bw) (s2:au) (f:aZ),aw s.next s s2->(∀x∈N,Small x)->(∀x∈M,Small x)->N.length=M.length->N.length<=100000->aU s2 5 y N.length LC->aU s2 5 z M.length MC->bX dV 5 (fun j=>s.next<=j) s2 N LC->bX dV 5 (fun j=>s.next<=j) s2 M MC->
   (df o=if 8<N.length then(([],4):b7 Lk×dg) else match fR N M with
    |none=>([],4)
    |some L=>(L,0))->f.n=84->f.get 6=y->f.get 7=z->K .normal f s2:=by
  clear hn h0 f;subst hK;intro N M y z LC MC s2 f aR fL dA YI qi hY hZ Ur XG xP hn h6 h7;have n2:=aR.next;by_cases c9:8<N.length
  ·have d9:((N.length:cv):dg)>8:=by omega
   simp only[aj,ad,QM,↓ab,hn,h6,hY.aQ UO,aC d9];exact fin _ _ 4 (by rw[xP,bk c9]) aR (by simp only[ag,hn]) (by simp only[aa,↓ab,WP]) (by simp only[aa,↓ab])
  have d9:¬((N.length:cv):dg)>8:=by omega
  rw[a8 c9] at xP;have IU:b6 af 68=some (eN ⟨0,0,0,[],0⟩):=by kernel_rfl
  have vS:cr (eN ⟨0,0,0,[],0⟩)=true:=by kernel_rfl
  have Us:dX af 68=some 48:=by kernel_rfl
  have Sx:(⟨0,0,0,[],0⟩:Lk).cells.length+1=6:=rfl;simp only[aj,ad,QM,↓ab,hn,h6,hY.aQ UO,av d9];refine Comes.bD (fun q f t=>∃(i:cv) (v:bw) (L:b7 Lk),q=N.length-i/\i<=N.length/\L.length=i/\fR N M=(fR (N.drop i) (M.drop i)).map (L++·)/\Own t 5 v i (wE L)/\aM s2.next v/\aw s2.next s2 t/\f.n=84/\f.get 6=y/\f.get 7=z/\f.get 8=v/\f.get 9= .int .i64 (i:cv))
   (fun q f t=>(q= .ret/\fR N M=none/\aw s2.next s2 t/\f.n=84/\f.get 2= .slice none 0 0/\f.get 3= .int .i64 4)\/(q= .exit 1/\∃v L,fR N M=some L/\L.length=N.length/\Own t 5 v N.length (wE L)/\aM s2.next v/\aw s2.next s2 t/\f.n=84/\f.get 8=v))
   ⟨0,.slice none 0 0,[],rfl,by omega,rfl,by simp,.nil,aM.nil _,aw.refl _ _,by simp only[aa,ag,↓ab,WP,hn,h6,h7,ee];rfl⟩ ?_ ?_
  ·clear hn h6 h7 f;rintro Q hQ q f t ⟨i,v,L,rfl,hi,hLi,hM,hv,xp,aF,hn,h6,h7,h8,h9⟩;have nt:=aF.next;have Ut:=hY.keeps aF;have XI:=hZ.keeps aF;by_cases a7:i<N.length;rotate_left
   ·obtain rfl:i=N.length:=by omega
    have d1:¬((N.length:cv):dg)<((N.length:cv):dg):=by omega
    rw[eg] at hM;simp only[aj,ad,QM,WP,↓ab,hn,h6,h9,Ut.aQ UO,av d1];exact hQ _ _ _ (.inr ⟨rfl,v,L,by rw[hM];simp[fR],hLi,hv,xp,aF,by simp only[aa,ag,↓ab,WP,hn,h8,ep]⟩)
   have d1:(i:dg)<(N.length:dg):=by omega
   have zN:i<M.length:=by omega
   have fk:=Ut.indexAddr (P:=af) (k:= .i64) (x:=(i:dg)) UO kn (by omega) (by omega);have Z8:=XI.indexAddr (P:=af) (k:= .i64) (x:=(i:dg)) UO kn (by omega) (by omega);rw[c4] at fk Z8;have XJ:=(Ur.keeps dQ aF).row i a7;have er:=(XG.keeps dQ aF).row i zN;have hdN:N.drop i=N[i]::N.drop (i+1):=cd a7;have hdM:M.drop i=M[i]::M.drop (i+1):=cd zN;rw[hdN,hdM] at hM;simp only[fR] at hM;have vM:=fL _ (cx a7);have dI:=dA _ (cx zN);generalize N[i]=no at hM XJ vM;generalize M[i]=po at hM er dI;simp only[aj,ad,QM,WP,↓ab,hn,h6,h9,Ut.aQ UO,aC d1];obtain⟨B,hB⟩:∃B:cv->dt,B=fun j=>decide (j<t.next):=⟨_,rfl⟩
   have Em:∀j,B j=true->j<t.next:=by
    intro j h;rw[hB] at h;exact bt h
   have Zd:∀j,j<t.next->B j=true:=fun j h=>by rw[hB];exact ao h
   refine LB.cN.dx B Em 1 1 (by kernel_rfl) (by kernel_rfl) ?_;have js:=aw.spare t 1;have Fo:(spare t 1).next=t.next+1:=bu _ _;have eF:=(Ut.keeps js).fZ (P:=af) Bi kn a7;have hlz:=(XI.keeps js).fZ (P:=af) Bi kn zN;generalize (LC.drop (i*5)).take 5=cn at eF XJ;generalize (MC.drop (i*5)).take 5=cp at hlz er;simp only[aj,ak,bg,bn,cg,ad,QM,WP,↓ab,hn,h6,h7,h9,Ut.self,XI.self,fk,Z8,eF,hlz,LA.gh Ut Zd a7,LA.gh XI Zd zN,XJ.self,er.self];refine(Re _ _ (spare t 1) cn cp no po (XJ.keeps js) (er.keeps js) dI).mono ?_;rintro _ t2 ⟨⟨l,rfl,xN⟩,k3⟩;have n3:=k3.next;refine⟨fun _=>LA.aw.qI Em (k3.weaken (by omega)),?_⟩;obtain⟨b,hb⟩:∃b,b=(kK no po).2:=⟨_,rfl⟩
   rw[<-hb] at hM xN|-
   have y0:aH (.tuple #[eN l,.bool b]) 0=some (eN l):=rfl;have y1:aH (.tuple #[eN l,.bool b]) 1=some (.bool b):=rfl;have fV:bI (eN l) (eN l)=true:=by simp[bI,fc,cw,Lk.cells]
   have Uu:bI (.tuple #[eN l,.bool b]) (.tuple #[eN l,.bool b])=true:=by simp[bI,qp,wJ,fc,cw,Lk.cells]
   simp only[aj,bg,bn,QM,WP,↓ab,hn,y0,y1,fV,Uu,IU,vS];refine LB.gU (by omega) ?_;intro t3 iy j6 qO;have iy:az t3 t.next (⟨0,0,0,[],0⟩:Lk).cells:=iy;simp only[aj,bn,QM,WP,↓ab,hn,Sx];refine LB.bS kr (by decide) iy rfl rfl rfl rfl (fun h=>cJ rfl h) ?_;intro t4 yp wi NF;have yp:az t4 t.next l.cells:=yp;have k4:aw t.next t t4:=(js.trans (k3.weaken (by omega))).trans ⟨by omega,fun j hj=>by rw[NF j (by omega),qO j (by omega)]⟩;have m4:=k4.next;have Uv:=hv.keeps k4;have eP:=aF.trans (k4.weaken nt);cases b with
   |false=>
    rw[a8 (by decide)] at hM;simp only[aj,QM,WP,↓ab,aj,bg,bn,ax,QM,WP,↓ab,hn];exact hQ _ _ _ (.inl ⟨rfl,by rw[hM];rfl,eP,by simp only[aa,ag,↓ab,WP,hn,ep]⟩)
   |true=>
   rw[bk rfl,<-xN rfl] at hM;have la2:aN af t4 68 (.pointer (some ⟨t.next,0,some 6⟩))=some (eN l):=az.bd (P:=af) (cs:=l.cells) Et kr yp (c:=6) rfl;simp only[aj,ae,QM,WP,↓ab,aj,bg,bn,ax,ae,QM,WP,↓ab,hn,h8,la2,gn (cs:=l.cells.toArray) UK kr IU vS rfl rfl (by decide)];refine bc (by rfl) ?_;intro w t5 hw xg k5;have m5:=k5.next;simp only[aj,ad,QM,WP,↓ab,hn];refine gb UK UK (.inl ⟨_,rfl⟩) kr Us IU rfl (Uv.keeps k5) hw.aL.src rfl (by decide) rfl (by omega) (by omega) xp (by omega) ?_;intro v' t6 hv' aba k6 _ _;simp(disch:=omega)only[aj,QM,WP,↓ab,hn,h9,aB];refine ar (N.length-(i+1)) (by omega) ⟨i+1,v',L++[l],rfl,by omega,by simp[hLi],?_,by rw[xo];simpa [wE] using hv',aba,(eP.trans (k5.weaken (by omega))).trans k6,by simp only[ag,hn],by simp only[aa,↓ab,WP,h6],by simp only[aa,↓ab,WP,h7],by simp only[aa,↓ab,WP],by simp only[aa,↓ab];rfl⟩;rw[hM,Option.map_map]
   congr 1
   funext x
   simp
  clear hn h6 h7 f;rintro _ f u (⟨rfl,hM,hu,hn,h2,h3⟩|⟨rfl,v,L,hM,hLl,hv,xp,hu,hn,h8⟩)
  ·rw[hM] at xP;simp only[aj];exact fin _ _ 4 xP (aR.trans (hu.weaken n2)) hn h2 h3
  rw[hM] at xP;simp only[aj,al,oneOf,QM,WP,↓ab,hn,h8,dT];rw[eK,xP];exact⟨v,rfl,by show Own u 5 v L.length _;rw[hLl];exact hv,fun j hj=>by have:=xp j hj;omega,aR.trans (hu.weaken n2)⟩
 have UA:∀(f:aZ) (t:au) (x:dg),df o=([],x)->aw s.next s t->f.n=84->f.get 2= .slice none 0 0->f.get 3= .int .i64 x->K .ret f t:=by
  intro f t x e h1 h2 h3 h4;subst hK;simp only[aj];exact fin f t x e h1 h2 h3 h4
 by_cases c0:fo.kind=0
 ·simp only[aj,QM,↓ab,aj,QM,↓ab,hn,oi,f0,aC c0];refine UA _ _ 0 ?_ oZ (by simp only[ag,hn]) (by simp only[aa,↓ab,WP]) (by simp only[aa,↓ab]);rw[hO2,xP,bk c0];simp[fR]
 have hN3:∀N M:b7 O,(gi o)=(N,M,true)->df o=if 8<N.length then(([],4):b7 Lk×dg) else match fR N M with
    |none=>([],4)
    |some L=>(L,0):=fun N M h=>by
  rw[hO2,h];by_cases c9:8<N.length
  ·rw[bk (.inr c9),bk c9]
  rw[a8 (fun h=>h.elim (fun h=>by cases h) c9),a8 c9]
 by_cases c5:fo.kind=5
 ·simp only[aj,ae,QM,WP,↓ab,hn,oi,f0,av c0,aC c5,az.fi Wl la,gn (cs:=ca.toArray) UO kn zO Ac rfl la (by decide)];refine bc la ?_;intro u g2 hu huF k2;simp only[aj,ae,QM,WP,↓ab,hn,az.fi (Ph.keeps k2) lb,gn (cs:=cb.toArray) UO kn zO Ac rfl lb (by decide)];refine bc lb ?_;intro w g3 hw xg k3;have kg:=k2.trans (k3.weaken k2.next);have f1:aN af g3 3 (.pointer (some ⟨s1.next+1,0,some 6⟩))=some (.int .i64 po.kind):=by
   have:=(Ph.keeps kg).load (P:=af) aP (off:=0) (c:=6) (by omega) (by omega);rw[this,r0]
  have hl:gi o=([fo],[po],true):=by rw[xP,a8 c0,bk c5]
  by_cases p6:po.kind=6
  ·simp only[aj,QM,WP,↓ab,hn,oi,f1,aC p6];refine UA _ _ 4 ?_ (oZ.trans (kg.weaken oZ.next)) (by simp only[ag,hn]) (by simp only[aa,↓ab,WP]) (by simp only[aa,↓ab]);rw[hN3 _ _ hl,a8 (by simp)];have:(kK fo po).2=false:=by unfold kK;rw[bk (.inr ⟨by omega,by omega⟩)]
   simp only[fR,this];rfl
  simp only[aj,QM,WP,↓ab,hn,oi,f1,av p6];exact go [fo] [po] u w ca cb g3 _ (oZ.trans (kg.weaken oZ.next)) (fun x hx=>by rw[ec.1 hx];exact hsF) (fun x hx=>by rw[ec.1 hx];exact hsP) rfl (by simp) ((hu.keeps k3).aL) hw.aL (by simpa using bX.nil.snoc la (Rb.keeps kg)) (by simpa using bX.nil.snoc lb (Rc.keeps kg)) (hN3 _ _ hl) (by simp only[ag,hn]) (by simp only[aa,↓ab,WP]) (by simp only[aa,↓ab,WP])
 by_cases c6:fo.kind=6;rotate_left
 ·simp only[aj,QM,WP,↓ab,hn,oi,f0,av c0,av c5,av c6];refine UA _ _ 4 ?_ oZ (by simp only[ag,hn]) (by simp only[aa,↓ab,WP]) (by simp only[aa,↓ab]);rw[hO2,xP,a8 c0,a8 c5,a8 c6,bk (.inl rfl)]
 obtain⟨y,LC,hy,hY,Ur⟩:∃y LC,ca.getD 3 undef=y/\aU g 5 y fo.items.length LC/\bX dV 5 (fun j=>s.next<=j) g fo.items LC:=by
  cases fo with
  |mk k m b l d=>obtain⟨bv,lv,dv,lc,dc,rfl,h1,h2,h3,h4,h5,h6,h7,h8⟩:=Rb.parts;exact⟨lv,lc,rfl,h2,h7⟩
 obtain⟨z,MC,hz,hZ,XG⟩:∃y LC,cb.getD 3 undef=y/\aU g 5 y po.items.length LC/\bX dV 5 (fun j=>s.next<=j) g po.items LC:=by
  cases po with
  |mk k m b l d=>obtain⟨bv,lv,dv,lc,dc,rfl,h1,h2,h3,h4,h5,h6,h7,h8⟩:=Rc.parts;exact⟨lv,lc,rfl,h2,h7⟩
 have f3:aN af g 23 (.pointer (some ⟨s1.next,3,some 6⟩))=some y:=by
  have:=Wl.load (P:=af) Ad (off:=3) (c:=6) (by omega) (by omega);rw[this,hy]
 have p3:aN af g 23 (.pointer (some ⟨s1.next+1,3,some 6⟩))=some z:=by
  have:=Ph.load (P:=af) Ad (off:=3) (c:=6) (by omega) (by omega);rw[this,hz]
 have hsI:∀{q:O},Small q->(∀x∈q.items,Small x)/\q.items.length<=100000:=fun h=>by cases h with|mk h1 h2 h3 h4 h5=>exact⟨h5,h2⟩
 obtain⟨jK,hfl⟩:=hsI hsF;obtain⟨xJ,-⟩:=hsI hsP;by_cases p0:po.kind=0
 ·have YN:∀t:au,dq af t 23 (.int .i64 (fo.items.length:cv)) (.int .i64 (fo.items.length:cv))=a6 t (db fC fo.items.length) fo.items.length 5:=fun t=>Es UO kn zO byO Ac rfl (by omega) (by omega)
  simp only[aj,ad,QM,WP,↓ab,hn,oi,BT,f0,f1,f3,p3,hY.aQ UO,YN,av c0,av c5,aC c6,aC p0];refine bc (n:=fo.items.length) (z:=5) (ND _) ?_;intro u g2 hu huF k2;simp only[aj,QM,↓ab,hn];exact go fo.items (cA fo.items.length O.none) y u LC _ g2 _ (oZ.trans (k2.weaken oZ.next)) jK (fun x hx=>by rw[(eb.1 hx).2];exact Small.none) (by simp) hfl (hY.keeps k2) (by rw[dw];exact hu.aL) (Ur.keeps dQ k2) (bX.Uo _ _ _) (hN3 _ _ (by rw[xP,a8 c0,a8 c5,bk c6,bk p0])) (by simp only[ag,hn]) (by simp only[aa,↓ab,WP]) (by simp only[aa,↓ab])
 by_cases p6:po.kind=6
 ·by_cases pl:po.items.length=fo.items.length
  ·have pl' :((po.items.length:cv):dg)=(fo.items.length:cv):=by omega
   simp only[aj,ak,ad,QM,WP,↓ab,hn,oi,BT,f0,f1,f3,p3,hY.aQ UO,hZ.aQ UO,av c0,av c5,aC c6,av p0,aC p6,aC pl'];exact go fo.items po.items y z LC MC g _ oZ jK xJ pl.symm hfl hY hZ Ur XG (hN3 _ _ (by rw[xP,a8 c0,a8 c5,bk c6,a8 p0,ao p6,ao pl];rfl)) (by simp only[ag,hn]) (by simp only[aa,↓ab,WP]) (by simp only[aa,↓ab,WP])
  have pl' :¬((po.items.length:cv):dg)=(fo.items.length:cv):=by omega
  simp only[aj,ak,ad,QM,WP,↓ab,hn,oi,BT,f0,f1,f3,p3,hY.aQ UO,hZ.aQ UO,av c0,av c5,aC c6,av p0,aC p6,av pl'];refine UA _ _ 4 ?_ oZ (by simp only[ag,hn]) (by simp only[aa,↓ab,WP]) (by simp only[aa,↓ab]);rw[hO2,xP,a8 c0,a8 c5,bk c6,a8 p0,ao p6,an pl,bk (.inl rfl)]
 simp only[aj,ak,QM,WP,↓ab,undef,hn,oi,BT,f0,f1,f3,p3,av c0,av c5,aC c6,av p0,av p6];refine UA _ _ 4 ?_ oZ (by simp only[ag,hn]) (by simp only[aa,↓ab,WP]) (by simp only[aa,↓ab]);rw[hO2,xP,a8 c0,a8 c5,bk c6,a8 p0,an p6,bk (.inl rfl)]
end Go.Proofs.YtdfjfncifneocaaGreat